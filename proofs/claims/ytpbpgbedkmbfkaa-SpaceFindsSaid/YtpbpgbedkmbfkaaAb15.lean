/-
  Ab15: the simulation of made slices, of append and of copy.
-/
import Derived.Test.YtpbpgbedkmbfkaaAb14
import Derived.Laws.MakeOwn
namespace Go.Ab

theorem SR.drawn {T : Tab} {B0 : Nat} {B : BM} {s : St} {w : World} (h : SR T B0 B s w) (n : Nat) : SR T B0 B s { w with drawn := n } :=
  ⟨h.lenL, h.lenH, fun a b ar h1 h2 => (h.blk a b ar h1 h2).of_heap (fun _ => rfl), h.sep, h.own, h.hpv⟩
theorem Stp.drawn {T : Tab} {B0 base : Nat} {B : BM} {s : St} {w : World} (h : SR T B0 B s w) (n : Nat) : Stp T B0 base B s w B s { w with drawn := n } :=
  ⟨h.drawn n, Ext.refl _, ⟨rfl, rfl, rfl, Nat.le_refl _, fun _ _ _ => rfl⟩, fun _ _ h => h, fun _ _ h => h⟩

theorem CRs_append {T : Tab} {B : BM} : ∀ {l m : List V} {cs : List Value}, CRs T B (l ++ m) cs ↔ ∃ a b, cs = a ++ b ∧ CRs T B l a ∧ CRs T B m b
  | [], m, cs => by
    simp only [List.nil_append, CRs]
    constructor
    · intro h; exact ⟨[], cs, rfl, rfl, h⟩
    · rintro ⟨a, b, rfl, rfl, h⟩; exact h
  | v :: l, m, cs => by
    simp only [List.cons_append, CRs]
    constructor
    · rintro ⟨a, b, rfl, h1, h2⟩
      obtain ⟨c, d, rfl, h3, h4⟩ := CRs_append.1 h2
      exact ⟨a ++ c, d, by simp, ⟨a, c, rfl, h1, h3⟩, h4⟩
    · rintro ⟨_, d, rfl, ⟨a, c, rfl, h1, h3⟩, h4⟩
      exact ⟨a, c ++ d, by simp, h1, CRs_append.2 ⟨c, d, rfl, h3, h4⟩⟩
theorem wfs_append {T : Tab} {l m : List V} : V.wfs T (l ++ m) ↔ V.wfs T l ∧ V.wfs T m := by
  simp only [wfs_iff, List.mem_append]
  exact ⟨fun h => ⟨fun x hx => h x (.inl hx), fun x hx => h x (.inr hx)⟩, fun h x hx => hx.elim (h.1 x) (h.2 x)⟩

/-- Elements, and their cells. -/
structure ElR (T : Tab) (B : BM) (e : Nat) (l : List V) (cs : List Value) : Prop where
  wf : V.wfs T l
  cr : CRs T B l cs
  tg : ∀ u ∈ l, u.tag = e
  nr : l ≠ [] → T.noRow e = true
theorem ElR.len {T : Tab} (hT : tabOk T = true) {B : BM} {e : Nat} {l : List V} {cs : List Value} (h : ElR T B e l cs) : cs.length = l.length * T.size e := by
  rw [CRs_len hT h.wf h.cr (fun u hu => by rw [h.tg u hu]; exact h.nr (List.ne_nil_of_mem hu)), sum_const h.tg]
theorem ElR.split {T : Tab} {B : BM} {e : Nat} {l m : List V} {cs : List Value} (h : ElR T B e (l ++ m) cs) : ∃ a b, cs = a ++ b ∧ ElR T B e l a ∧ ElR T B e m b := by
  obtain ⟨a, b, rfl, h1, h2⟩ := CRs_append.1 h.cr
  have hw := wfs_append.1 h.wf
  exact ⟨a, b, rfl, ⟨hw.1, h1, fun u hu => h.tg u (List.mem_append_left _ hu), fun hn => h.nr (by simp [hn])⟩, ⟨hw.2, h2, fun u hu => h.tg u (List.mem_append_right _ hu), fun hn => h.nr (by simp [hn])⟩⟩
theorem ElR.app {T : Tab} {B : BM} {e : Nat} {l m : List V} {a b : List Value} (h : ElR T B e l a) (h' : ElR T B e m b) : ElR T B e (l ++ m) (a ++ b) :=
  ⟨wfs_append.2 ⟨h.wf, h'.wf⟩, CRs_append.2 ⟨a, b, rfl, h.cr, h'.cr⟩, fun u hu => (List.mem_append.1 hu).elim (h.tg u) (h'.tg u), fun hn => by
    by_cases hl : l = []
    · exact h'.nr (by intro hm; exact hn (by simp [hl, hm]))
    · exact h.nr hl⟩
theorem ElR.take {T : Tab} (hT : tabOk T = true) {B : BM} {e : Nat} {l : List V} {cs : List Value} (h : ElR T B e l cs) (n : Nat) (hn : n ≤ l.length) : ElR T B e (l.take n) (cs.take (n * T.size e)) := by
  rw [← List.take_append_drop n l] at h
  obtain ⟨a, b, rfl, h1, h2⟩ := h.split
  have := h1.len hT
  rw [List.length_take, Nat.min_eq_left hn] at this
  rw [← this, List.take_left']
  · exact h1
  · rfl

/-- An array's or a row's elements. -/
theorem agg_el {T : Tab} (hT : tabOk T = true) {B : BM} {t e : Nat} {l : List V} {cs : List Value} (hw : (V.agg t l).wf T) (hc : CR T B (.agg t l) cs) (he : T.elem t = some e) : ElR T B e l cs ∧ 0 < T.size e := by
  simp only [V.wf] at hw
  simp only [CR] at hc
  obtain ⟨hag, hwl⟩ := hw
  unfold aggOk at hag
  unfold Tab.elem at he
  cases hi : T.info t with
  | none => rw [hi] at hag; exact hag.elim
  | some ti =>
    rw [hi] at hag he
    cases ti with
    | st fs => cases he
    | arr n e' => cases he; exact ⟨⟨hwl, hc, hag.2, fun _ => (arrOk hT hi).nr⟩, (arrOk hT hi).pos⟩
    | row e' => cases he; exact ⟨⟨hwl, hc, hag, fun _ => (rowOk hT hi).nr⟩, (rowOk hT hi).pos⟩

/-- What a slice shows: the whole row or array, and the cells that it shows. -/
theorem elems_sl_sim {T : Tab} (hT : tabOk T = true) {B0 : Nat} {B : BM} {s : St} {w : World} (h : SR T B0 B s w) {a : Loc} {path : List Nat} {off len e e' : Nat} {cap : Option Nat} {l : List V}
    (hl : s.elems (.sl a path off len cap e') = some l) {ad : Addr} {r o u : Nat} (hB : B.at a = some (ad, r)) (ho : offOf T r path = some (o, u)) (he : T.elem u = some e) :
    l.length = len ∧ ∃ cs, ElR T B e l cs ∧ w.rangeAt ad.block (ad.off + (o + off * T.size e)) cs := by
  simp only [St.elems] at hl
  by_cases hz : len = 0
  · rw [if_pos hz] at hl
    simp only [Option.some.injEq] at hl
    subst hl; subst hz
    exact ⟨rfl, [], ⟨trivial, rfl, by simp, by simp⟩, fun j v hv => by simp at hv⟩
  rw [if_neg hz] at hl
  cases hr : s.read a path with
  | none => rw [hr] at hl; cases hl
  | some v =>
    rw [hr] at hl
    cases v with
    | agg t L =>
      simp only at hl
      by_cases hn : off + len ≤ L.length
      · rw [if_pos hn] at hl
        simp only [Option.some.injEq] at hl
        subst hl
        obtain ⟨h1, h2, cs, h3, h4, _⟩ := read_sim hT h hr hB ho
        simp only [V.tag] at h2
        subst h2
        have hel := (agg_el hT h1 h3 he).1
        rw [← List.take_append_drop off L, ← List.take_append_drop len (L.drop off)] at hel
        obtain ⟨p, q, rfl, e1, e2⟩ := hel.split
        obtain ⟨p2, q2, rfl, e3, e4⟩ := e2.split
        refine ⟨by simp; omega, p2, e3, fun j v hv => ?_⟩
        have := h4 (p.length + j) v (by rw [List.getElem?_append_right (by omega), Nat.add_sub_cancel_left, List.getElem?_append_left (List.getElem?_eq_some_iff.1 hv).1]; exact hv)
        rw [e1.len hT, List.length_take, Nat.min_eq_left (by omega)] at this
        rw [← this]
        congr 2
        omega
      · rw [if_neg hn] at hl; cases hl
    | _ => cases hl

theorem vr_u8s {T : Tab} {B : BM} (hT : tabOk T = true) (l : List UInt8) : ElR T B 12 (l.map fun c => V.int .u8 c.toNat) (l.map fun c => Value.int .u8 c.toNat) := by
  refine ⟨wfs_iff.2 (fun x hx => ?_), ?_, fun u hu => ?_, fun _ => ?_⟩
  · obtain ⟨c, _, rfl⟩ := List.mem_map.1 hx; trivial
  · induction l with
    | nil => rfl
    | cons c l ih => exact ⟨[_], _, rfl, rfl, ih⟩
  · obtain ⟨c, _, rfl⟩ := List.mem_map.1 hu; rfl
  · unfold Tab.noRow
    have := info_leaf hT (t := 12) (by decide)
    unfold Tab.info at this
    cases hf : T.find 12 with
    | none => rfl
    | some x => rw [hf] at this; cases this

/-- What append and copy take: its elements, its length, its first cells. -/
theorem elems_any {T : Tab} (hT : tabOk T = true) {B0 : Nat} {B : BM} {s : St} {w : World} {P : Program} (h : SR T B0 B s w) {y : V} {Y : Value} {e : Nat} (hy : VR T B y Y) (hi : y.elIs e = true) {l : List V} (hl : s.elems y = some l) :
    ∃ cs, ElR T B e l cs ∧ (∀ w', (Builtin.lenOf Y).run P w' = .ok l.length w') ∧ ∀ n w', n ≤ l.length → w'.heap = w.heap → (Builtin.firstCells (T.size e) n Y).run P w' = .ok (cs.take (n * T.size e)).toArray w' := by
  cases y with
  | nils =>
    rw [vr_nils] at hy
    simp only [St.elems, Option.some.injEq] at hl
    subst hl; subst hy
    exact ⟨[], ⟨trivial, rfl, by simp, by simp⟩, fun w' => by simp [Builtin.lenOf], fun n w' hn _ => by simp [Builtin.firstCells]⟩
  | sl a path off len cap e' =>
    simp only [V.elIs, decide_eq_true_eq] at hi
    subst hi
    obtain ⟨ad, r, o, u, c', ad', h1, h2, h3, h4, h5, h6, h7, h8, rfl⟩ := vr_sl.1 hy
    obtain ⟨g1, cs, g2, g3⟩ := elems_sl_sim hT h hl h1 h2 h3
    refine ⟨cs, g2, fun w' => by simp [Builtin.lenOf, g1], fun n w' hn hw => ?_⟩
    have hlen := g2.len hT
    refine run_firstCells_some w' _ n ad' len c' _ ?_ (fun j v hv => ?_)
    · rw [List.length_take, hlen, Nat.min_eq_left (Nat.mul_le_mul_right _ hn)]
    · have hj := (List.getElem?_eq_some_iff.1 hv).1
      rw [List.length_take, hlen] at hj
      rcases h7 with h7 | h7
      · have : l.length = 0 := by omega
        rw [this] at hj
        simp at hj
      · subst h7
        rw [Addr.add_mid]
        rw [List.getElem?_take] at hv
        split at hv
        · have := g3 j v hv
          simp only [World.cell?, hw] at this ⊢
          exact this
        · cases hv
  | str b =>
    simp only [V.elIs, decide_eq_true_eq] at hi
    subst hi
    rw [vr_str] at hy
    subst hy
    simp only [St.elems, Option.some.injEq] at hl
    subst hl
    refine ⟨b.data.toList.map fun c => Value.int .u8 c.toNat, vr_u8s hT _, fun w' => ?_, fun n w' hn _ => ?_⟩
    · simp only [Builtin.lenOf, List.length_map, Array.length_toList]; rfl
    · rw [size_leaf hT (t := 12) (by decide), Nat.mul_one]
      simp only [Builtin.firstCells, Sem.run_pure]
      congr 1
      apply Array.ext'
      simp only [List.length_map, Array.length_toList] at hn
      have hd : (b.extract 0 n).data = b.data.extract 0 n := by
        rw [ByteArray.data_extract]
      rw [hd]
      simp
  | _ => simp [V.elIs] at hi

section runs
variable {P : Program} {w w' : World} {ty ty' tr ety : TypeId} {i : TypeInfo} {d' : TypeDesc} (ht : P.underlying ty = some (.slice ety)) (ht' : P.underlying ty' = some d') (hd : (∃ e2, d' = .slice e2) ∨ d' = .string) (hi : P.info? ety = some i)
include ht ht' hd hi

theorem run_app_zero {bs : Option Addr} {n c : Nat} {Y : Value} (hl : (Builtin.lenOf Y).run P w = .ok 0 w) (hf : (Builtin.firstCells i.size 0 Y).run P w = .ok #[] w) (hnc : n ≤ c) :
    (Builtin.append_ #[ty, ty'] tr #[.slice bs n c, Y]).run P w = .ok (.slice bs n c) w := by
  rcases hd with ⟨e2, rfl⟩ | rfl <;> cases bs <;> simp [Builtin.append_, run_underlying ht, run_underlying ht', sizeOf, typeInfo, hi, hl, hf, hnc, storeCells]

theorem run_app_room {a : Addr} {n m c : Nat} {Y : Value} {news : List Value} (hl : (Builtin.lenOf Y).run P w = .ok m w) (hf : (Builtin.firstCells i.size m Y).run P w = .ok news.toArray w) (hnc : n + m ≤ c)
    (hst : (storeCells (a.add (n * i.size)) news).run P w = .ok () w') :
    (Builtin.append_ #[ty, ty'] tr #[.slice (some a) n c, Y]).run P w = .ok (.slice (some a) (n + m) c) w' := by
  rcases hd with ⟨e2, rfl⟩ | rfl <;> simp [Builtin.append_, run_underlying ht, run_underlying ht', sizeOf, typeInfo, hi, hl, hf, hnc, hst]

theorem run_app_grow {z : Value} (hz : i.zero = some z) {bs : Option Addr} {n m c : Nat} {Y : Value} {olds news : List Value} (hl : (Builtin.lenOf Y).run P w = .ok m w) (hf : (Builtin.firstCells i.size m Y).run P w.drew = .ok news.toArray w.drew)
    (hfo : (Builtin.firstCells i.size n (.slice bs n c)).run P w.drew = .ok olds.toArray w.drew) (hg : c < n + m) (h63 : n + m ≤ 9223372036854775807) (hfit : Builtin.nextslicecap (n + m) c * i.bytes ≤ 281474976710656) :
    (Builtin.append_ #[ty, ty'] tr #[.slice bs n c, Y]).run P w = .ok (.slice (some ⟨w.heap.size, 0, none⟩) (n + m) (grownCap w (n + m) c ety))
      (w.drew.alloc (.cells (olds.toArray ++ news.toArray ++ Builtin.zeroCells z.cells (grownCap w (n + m) c ety - (n + m))) ety)) := by
  have hn : ¬ (n + m ≤ c) := by omega
  have h63' : ¬ (9223372036854775807 < ((n : Int) + (m : Int))) := by omega
  have h48' : ¬ (281474976710656 < Builtin.nextslicecap (n + m) c * i.bytes) := by omega
  rcases hd with ⟨e2, rfl⟩ | rfl
  · simp [Builtin.append_, run_underlying ht, run_underlying ht', sizeOf, typeInfo, zeroValue, hi, hz, hl, hn, h63', h48', Question.forced, hf, hfo, newRow, grownCap]
    congr 2
    apply Array.ext'
    simp [List.append_assoc]
  · simp [Builtin.append_, run_underlying ht, run_underlying ht', sizeOf, typeInfo, zeroValue, hi, hz, hl, hn, h63', h48', Question.forced, hf, hfo, newRow, grownCap]
    congr 2
    apply Array.ext'
    simp [List.append_assoc]
omit ht' hd in
theorem run_cpy {ba : Option Addr} {dl dc m : Nat} {Y : Value} {cs : List Value} (hl : (Builtin.lenOf Y).run P w = .ok m w) (hf : (Builtin.firstCells i.size (min m dl) Y).run P w = .ok cs.toArray w)
    (hst : match ba with | none => w' = w | some a => (storeCells a cs).run P w = .ok () w') :
    (Builtin.copy_ #[ty, ty'] tr #[.slice ba dl dc, Y]).run P w = .ok (goInt ((min m dl : Nat) : Int)) w' := by
  have hf' : (Builtin.firstCells i.size (Nat.min m dl) Y).run P w = .ok cs.toArray w := hf
  cases ba with
  | none => subst hst; simp [Builtin.copy_, run_underlying ht, sizeOf, typeInfo, hi, hl, hf']
  | some a => simp only at hst; simp [Builtin.copy_, run_underlying ht, sizeOf, typeInfo, hi, hl, hf', hst]
end runs

theorem setCell_same {w : World} {g o : Nat} {v : Value} (h : w.cell? ⟨g, o, none⟩ = some v) : w.setCell ⟨g, o, none⟩ v = w := by
  unfold World.setCell
  cases w with
  | mk heap tape drawn os output =>
    congr 1
    apply Array.ext
    · simp
    · intro k h1 h2
      simp only [Array.getElem_modify]
      split
      · rename_i hk
        subst hk
        simp only [World.cell?] at h
        rw [Array.getElem?_eq_getElem h2] at h
        cases hc : heap[g] with
        | cells c e fr =>
          rw [hc] at h
          simp only at h
          have ho := (Array.getElem?_eq_some_iff.1 h)
          obtain ⟨ho1, ho2⟩ := ho
          simp only [Obj.cells.injEq, and_true]
          apply Array.ext
          · simp
          · intro k2 g1 g2
            show (c.setIfInBounds o v)[k2]'(by simpa using g1) = c[k2]
            rw [Array.getElem_setIfInBounds]
            split
            · rename_i e2; subst e2; exact ho2.symm
            · rfl
        | _ => rfl
      · rfl
theorem setCells_same (g : Nat) : ∀ (vs : List Value) (o : Nat) (w : World), w.rangeAt g o vs → w.setCells g o vs = w
  | [], _, _, _ => rfl
  | v :: vs, o, w, h => by
    have h0 : w.cell? ⟨g, o, none⟩ = some v := h 0 v rfl
    rw [World.setCells, setCell_same h0]
    exact setCells_same g vs (o + 1) w (fun j u hu => by rw [show o + 1 + j = o + (j + 1) by omega]; exact h (j + 1) u (by simpa using hu))
theorem setCells_append (g : Nat) : ∀ (a b : List Value) (o : Nat) (w : World), w.setCells g o (a ++ b) = (w.setCells g o a).setCells g (o + a.length) b
  | [], b, o, w => by simp [World.setCells]
  | v :: a, b, o, w => by
    simp only [List.cons_append, World.setCells, List.length_cons]
    rw [setCells_append g a b (o + 1), show o + 1 + a.length = o + (a.length + 1) by omega]
theorem setCells_mid (g o : Nat) (a m z : List Value) (w : World) (ha : w.rangeAt g o a) (hz : w.rangeAt g (o + (a.length + m.length)) z) : w.setCells g o (a ++ m ++ z) = w.setCells g (o + a.length) m := by
  rw [List.append_assoc, setCells_append, setCells_same g a o w ha, setCells_append]
  refine setCells_same g z _ _ ?_
  rw [show o + a.length + m.length = o + (a.length + m.length) by omega]
  exact World.rangeAt_setCells_apart hz g (o + a.length) m (.inr (.inr (by omega)))

theorem kill_stp {T : Tab} {B0 base : Nat} {B : BM} {s : St} {w : World} (h : SR T B0 B s w) {a : Loc} {v : V} (hs : s.at a = some (.rw v)) : Stp T B0 base B s w B (s.set a .dead) w :=
  ⟨kill_sr h a, Ext.refl _, Frm.refl _ _, fun _ _ hk => kill_own hs hk, fun _ _ hl => kill_lvl hl⟩

theorem may_row {T : Tab} {h : Bool} {r e : Nat} {l : List V} (hw : V.wfs T l) (ht : ∀ u ∈ l, u.tag = e) (hm : e % 2 = 0 ∨ mayNew h (.agg 1 l) = true) : mayNew h (.agg r l) = true := by
  cases h with
  | false => rfl
  | true =>
    simp only [mayNew, Bool.not_true, Bool.false_or, V.locLt, Bool.or_eq_true, beq_iff_eq] at hm ⊢
    right
    rcases hm with h1 | h1
    · rw [locLts_iff]
      intro u hu
      exact even_locLt (wfs_iff.1 hw u hu) (by rw [ht u hu]; exact h1)
    · rcases h1 with h1 | h1
      · omega
      · exact h1

theorem slIs_elIs {e : Nat} {x : V} (h : x.slIs e = true) : x.elIs e = true := by
  cases x <;> simp_all [V.slIs, V.elIs]

theorem two_args {gl : GL} {x y : Opd} {args : Array Operand} (h : opdsOk gl [x, y] args.toList = true) : ∃ x' y', args = #[x', y'] ∧ opdOk gl x x' = true ∧ opdOk gl y y' = true := by
  obtain ⟨x', y', hargs⟩ : ∃ x' y', args.toList = [x', y'] := by
    match h1 : args.toList, h with
    | [x', y'], _ => exact ⟨x', y', rfl⟩
    | [], hcs => simp [opdsOk] at hcs
    | [_], hcs => simp [opdsOk] at hcs
    | _ :: _ :: _ :: _, hcs => simp [opdsOk] at hcs
  have hargs' : args = #[x', y'] := by rw [← Array.toArray_toList (xs := args), hargs]
  subst hargs'
  simp only [opdsOk, Bool.and_eq_true, Bool.and_true] at h
  exact ⟨x', y', rfl, h.1, h.2⟩

section sims
variable {c : Cfg} (hT : tabOk c.T = true) (hm : tmOk c = true) {B0 base : Nat} {B : BM} {s s' : St} {w : World} {a : Act} {ρ : Env} {v : V}
  (hE : ER c.T B ρ a.tmps) (hG : GlobR c.gl B) (hS : SR c.T B0 B s w) (hb : base ≤ s.loc.length) (hB0 : B0 ≤ w.heap.size)
include hT hm hE hG hS

include hb hB0 in
theorem sim_mksl {h : Bool} {r e : Nat} {z : V} {n m : Opd} {q : Oper} (hc : chkOp c (.mksl h r e z n m) q.op = true) (he : evOp base ρ s (.mksl h r e z n m) = some (v, s')) : OpOk c B0 base B s w a q v s' := by
  simp only [chkOp] at hc
  split at hc
  · rename_i ty n' m' hq
    simp only [Bool.and_eq_true] at hc
    obtain ⟨⟨⟨hn, hmm⟩, hrow⟩, hzo⟩ := hc
    have hn := opd_sim hn hE hG
    have hmm := opd_sim hmm hE hG
    obtain ⟨ety, i, hr⟩ := rowB_of hrow
    rw [hr.under] at hzo
    simp only at hzo
    obtain ⟨i2, x, hz⟩ := zOk_of hzo
    have hii : i2 = i := by have := hz.info; rw [hr.info] at this; exact (Option.some.inj this).symm
    subst hii
    have hze : z.tag = e := by have := hz.tag; rw [hr.el] at this; exact (Option.some.inj this).symm
    obtain ⟨i3, d, hty⟩ := ty_of hT hm hr.el
    have hi3 : i3 = i2 := by have := hty.info; rw [hr.info] at this; exact (Option.some.inj this).symm
    subst hi3
    have hok := rowOk hT hr.row
    have hxl : x.cells.toList.length = c.T.size e := by rw [← hze]; exact CR_len hT hz.wf (hz.cr B) (by rw [hze]; exact hok.nr)
    have hxs : x.cells.size = c.T.size e := by rw [← Array.length_toList]; exact hxl
    have hxp : 0 < x.cells.size := by rw [hxs]; exact hok.pos
    simp only [evOp] at he
    cases hnv : n.ev ρ with
    | int k1 l1 =>
      cases hmv : m.ev ρ with
      | int k2 m1 =>
        rw [hnv, hmv] at he
        simp only at he
        by_cases hle : 0 ≤ l1 ∧ l1 ≤ m1 ∧ m1 ≤ (most : Int)
        · rw [if_pos hle] at he
          simp only [Option.some.injEq, Prod.mk.injEq] at he
          obtain ⟨rfl, rfl⟩ := he
          rw [hnv, vr_int] at hn
          rw [hmv, vr_int] at hmm
          obtain ⟨g1, g2, g3⟩ := hle
          have hmost : (most : Int) = 1073741824 := rfl
          have hby : (i3.bytes : Int) * m1 ≤ 281474976710656 := by
            have hb1 := hr.bytes
            calc (i3.bytes : Int) * m1 ≤ 65536 * m1 := Int.mul_le_mul_of_nonneg_right (by omega) (by omega)
              _ ≤ 65536 * 1073741824 := Int.mul_le_mul_of_nonneg_left (by omega) (by omega)
              _ ≤ 281474976710656 := by decide
          have hrun := run_make (P := c.P) w ty ety i3 x hr.under hr.info hz.zero k1 k2 l1 m1 g1 g2 hby (by omega)
          have hwf : (V.agg r (List.replicate l1.toNat z)).wf c.T := by
            simp only [V.wf]
            refine ⟨?_, wfs_rep hz.wf _⟩
            unfold aggOk
            rw [hr.row]
            exact fun u hu => by rw [List.eq_of_mem_replicate hu, hze]
          have hmay : mayNew h (.agg r (List.replicate l1.toNat z)) = true := by
            cases h with
            | false => rfl
            | true =>
              simp only [mayNew, Bool.not_true, Bool.false_or, V.locLt, Bool.or_eq_true]
              right
              rw [locLts_iff]
              intro u hu
              rw [List.eq_of_mem_replicate hu]
              exact hz.lt
          have hcell : CR c.T B (.agg r (List.replicate l1.toNat z)) (List.replicate l1.toNat x.cells.toList).flatten := by
            simp only [CR]
            exact CRs_rep (hz.cr B) _
          have hsz : i3.size = x.cells.size := by rw [hxs]; exact hty.size
          refine ⟨_, _, _, ?_, .inl ⟨.slice (some ⟨w.heap.size, 0, none⟩) l1.toNat m1.toNat, rfl, ?_⟩, new_sim hS hb hB0 hwf hmay hcell (c := madeCells x.cells (m1.toNat * i3.size)) (by
            rw [hsz]; exact made_lies hxp (by omega)) ety⟩
          · simp [execOp, hq, hn, hmm, hrun]
          · refine vr_sl.2 ⟨_, _, 0, r, m1.toNat, _, push_fresh hS.lenL hS.lenH, rfl, by simp [Tab.elem, hr.row], fun n' e' hi => (by rw [hr.row] at hi; cases hi), by omega, fun k hk => (by cases hk; rfl), .inr ?_, ?_, rfl⟩
            · simp
            · intro N hN
              simp only [Option.some.injEq] at hN
              rw [← hN, size_madeCells, hsz, hxs]
              simp
        · rw [if_neg hle] at he; cases he
      | _ => rw [hnv, hmv] at he; cases he
    | _ => rw [hnv] at he; cases he
  · cases hc

include hb hB0 in
theorem sim_app {h : Bool} {r e : Nat} {x y : Opd} {q : Oper} (hc : chkOp c (.app h r e x y) q.op = true) (he : evOp base ρ s (.app h r e x y) = some (v, s')) : OpOk c B0 base B s w a q v s' := by
  simp only [chkOp] at hc
  split at hc
  · rename_i args argTypes hq
    simp only [Bool.and_eq_true] at hc
    obtain ⟨hargs, hc⟩ := hc
    obtain ⟨x', y', rfl, hx, hy⟩ := two_args hargs
    have hx := opd_sim hx hE hG
    have hy := opd_sim hy hE hG
    split at hc
    · rename_i ty ty' hat
      have hat' : argTypes = #[ty, ty'] := by rw [← Array.toArray_toList (xs := argTypes), hat]
      subst hat'
      simp only [Bool.and_eq_true] at hc
      obtain ⟨hrow, hty2⟩ := hc
      obtain ⟨ety, i, hr⟩ := rowB_of hrow
      obtain ⟨z, hz, hzs⟩ := hr.zero
      obtain ⟨d', hd', hd2⟩ : ∃ d', c.P.underlying ty' = some d' ∧ ((∃ e2, d' = .slice e2) ∨ d' = .string) := by
        split at hty2
        · rename_i e2 hu; exact ⟨_, hu, .inl ⟨e2, rfl⟩⟩
        · rename_i hu; exact ⟨_, hu, .inr rfl⟩
        · cases hty2
      obtain ⟨i3, d, hty⟩ := ty_of hT hm hr.el
      have hi3 : i3 = i := by have := hty.info; rw [hr.info] at this; exact (Option.some.inj this).symm
      subst hi3
      have hok := rowOk hT hr.row
      simp only [evOp, vappend] at he
      by_cases hel : (V.slIs e (x.ev ρ) && V.elIs e (y.ev ρ)) = true
      · rw [if_pos hel] at he
        simp only [Bool.and_eq_true] at hel
        cases hle : s.elems (x.ev ρ) with
        | none => rw [hle] at he; cases he
        | some old =>
          cases hln : s.elems (y.ev ρ) with
          | none => rw [hle, hln] at he; cases he
          | some new =>
            rw [hle, hln] at he
            simp only at he
            obtain ⟨cy, ey, ly, fy⟩ := elems_any (P := c.P) hT hS hy hel.2 hln
            obtain ⟨cx, ex, lx, fx⟩ := elems_any (P := c.P) hT hS hx (slIs_elIs hel.1) hle
            have hylen := ey.len hT
            have hxlen := ex.len hT
            have fyw : ∀ w', w'.heap = w.heap → (Builtin.firstCells i3.size new.length (a.eval y')).run c.P w' = .ok cy.toArray w' := by
              intro w' hw
              have := fy new.length w' (Nat.le_refl _) hw
              rw [← hylen, List.take_length] at this
              rw [hty.size]
              exact this
            have fxw : ∀ w', w'.heap = w.heap → (Builtin.firstCells i3.size old.length (a.eval x')).run c.P w' = .ok cx.toArray w' := by
              intro w' hw
              have := fx old.length w' (Nat.le_refl _) hw
              rw [← hxlen, List.take_length] at this
              rw [hty.size]
              exact this
            obtain ⟨bs, cp, hX, hcp⟩ : ∃ bs cp, a.eval x' = .slice bs old.length cp ∧ old.length ≤ cp := by
              cases hxv : x.ev ρ with
              | nils =>
                rw [hxv] at hx hle
                rw [vr_nils] at hx
                simp only [St.elems, Option.some.injEq] at hle
                subst hle
                exact ⟨none, 0, hx, Nat.le_refl _⟩
              | sl la p off len cap e' =>
                rw [hxv] at hx hle
                obtain ⟨ad, r', o, u, c', ad', h1, h2, h3, h4, h5, h6, h7, h8, h9⟩ := vr_sl.1 hx
                obtain ⟨g1, _⟩ := elems_sl_sim hT hS hle h1 h2 h3
                exact ⟨some ad', c', by rw [h9, g1], by omega⟩
              | _ => rw [hxv] at hel; simp [V.slIs] at hel
            have hexec : ∀ vv w1, (Builtin.append_ #[ty, ty'] q.type #[a.eval x', a.eval y']).run c.P w = .ok vv w1 → (execOp a.eval q).run c.P w = .ok (.value vv) w1 := by
              intro vv w1 hh
              simp [execOp, hq, resolve, invoke, builtin, hh]
            by_cases h0 : new.length = 0
            · rw [if_pos h0] at he
              simp only [Option.some.injEq, Prod.mk.injEq] at he
              obtain ⟨rfl, rfl⟩ := he
              have hcy : cy = [] := by
                rw [h0, Nat.zero_mul] at hylen
                exact List.length_eq_zero_iff.1 hylen
              refine pureOk hS (x := a.eval x') (hexec _ _ ?_) hx
              rw [hX]
              have f0 := fyw w rfl
              rw [h0, hcy] at f0
              have l0 := ly w
              rw [h0] at l0
              exact run_app_zero hr.under hd' hd2 hr.info l0 f0 hcp
            · rw [if_neg h0] at he
              by_cases hmy : old.length + new.length ≤ most ∧ (e % 2 = 0 ∨ mayNew h (.agg 1 (old ++ new)) = true)
              · rw [if_pos hmy] at he
                obtain ⟨hmost, hmy⟩ := hmy
                have hmost' : old.length + new.length ≤ 1073741824 := hmost
                have eall := ex.app ey
                have hmay : mayNew h (.agg r (old ++ new)) = true := may_row eall.wf eall.tg hmy
                have hwf : (V.agg r (old ++ new)).wf c.T := by
                  simp only [V.wf]
                  refine ⟨?_, eall.wf⟩
                  unfold aggOk
                  rw [hr.row]
                  exact eall.tg
                have hcell : CR c.T B (.agg r (old ++ new)) (cx ++ cy) := by
                  simp only [CR]; exact eall.cr
                have hby : (old.length + new.length) * i3.bytes ≤ 140737488355328 := by
                  calc (old.length + new.length) * i3.bytes ≤ 1073741824 * 65536 := Nat.mul_le_mul hmost' hr.bytes
                    _ ≤ 140737488355328 := by decide
                -- the model makes a new row
                have grow : ∀ s1 : St, Stp c.T B0 base B s w B s1 w → base ≤ s1.loc.length → cp < old.length + new.length → v = .sl (s1.fresh h) [] 0 (old.length + new.length) none e → s' = s1.new h (.agg r (old ++ new)) → OpOk c B0 base B s w a q v s' := by
                  intro s1 hst hb1 hlt hv hs'
                  subst hv; subst hs'
                  have hrun := run_app_grow (P := c.P) (w := w) (tr := q.type) hr.under hd' hd2 hr.info hz (bs := bs) (n := old.length) (c := cp) (ly w) (fyw w.drew rfl) (by have := fxw w.drew rfl; rwa [hX] at this) hlt (by omega) (growslice_fits hlt hby)
                  rw [← hX] at hrun
                  have hst2 := Stp.drawn (base := base) hst.sr (w.drawn + 1)
                  have hge := grownCap_ge w (old.length + new.length) cp ety
                  have hlies : Lies (cx.toArray ++ cy.toArray ++ Builtin.zeroCells z.cells (grownCap w (old.length + new.length) cp ety - (old.length + new.length))) 0 (cx ++ cy) := by
                    intro j u hu
                    have hj := (List.getElem?_eq_some_iff.1 hu).1
                    rw [Nat.zero_add, Array.getElem?_append_left (by simpa using hj)]
                    simpa using hu
                  have hnew := new_sim (w := w.drew) hst2.sr hb1 hB0 hwf hmay hcell hlies ety
                  refine ⟨_, _, _, hexec _ _ hrun, .inl ⟨_, rfl, ?_⟩, (hst.trans hst2).trans hnew⟩
                  refine vr_sl.2 ⟨_, _, 0, r, grownCap w (old.length + new.length) cp ety, _, push_fresh hst.sr.lenL hst.sr.lenH, rfl, by simp [Tab.elem, hr.row], fun n' e' hi => (by rw [hr.row] at hi; cases hi), by omega, fun k hk => (by cases hk), .inr ?_, ?_, rfl⟩
                  · show (⟨w.heap.size, 0, none⟩ : Addr) = ⟨w.heap.size, 0 + (0 + 0 * c.T.size e), none⟩; simp
                  · intro N hN
                    simp only [Option.some.injEq] at hN
                    rw [← hN]
                    simp only [Array.size_append, List.size_toArray, size_zeroCells, hzs, hty.size, hxlen, hylen]
                    rw [← Nat.add_mul, ← Nat.add_mul, Nat.add_sub_cancel' hge]
                    simp
                cases hxv : x.ev ρ with
                | nils =>
                  rw [hxv] at he hx hle
                  simp only [Option.some.injEq, Prod.mk.injEq] at he
                  rw [vr_nils] at hx
                  simp only [St.elems, Option.some.injEq] at hle
                  refine grow s (.refl hS) hb ?_ he.1.symm he.2.symm
                  have : cp = 0 := by rw [hX] at hx; simp only [Value.slice.injEq] at hx; exact hx.2.2
                  omega
                | sl la p off len cap e' =>
                  rw [hxv] at he hx hle
                  obtain ⟨ad, r', o, u, c', ad', h1, h2, h3, h4, h5, h6, h7, h8, h9⟩ := vr_sl.1 hx
                  have hXc : bs = some ad' ∧ old.length = len ∧ cp = c' := by rw [hX] at h9; simpa using h9
                  obtain ⟨rfl, hol, rfl⟩ := hXc
                  have hee : e' = e := by
                    have := hel.1
                    rw [hxv] at this
                    simpa [V.slIs] using this
                  subst hee
                  simp only at he
                  by_cases hk : (cap.map fun c => decide (c < old.length + new.length)) = some true
                  · rw [if_pos hk] at he
                    simp only [Option.some.injEq, Prod.mk.injEq] at he
                    refine grow s (.refl hS) hb ?_ he.1.symm he.2.symm
                    cases cap with
                    | none => cases hk
                    | some k =>
                      simp only [Option.map_some, Option.some.injEq, decide_eq_true_eq] at hk
                      have := h6 k rfl
                      omega
                  · rw [if_neg hk] at he
                    by_cases hp : p = []
                    · rw [if_pos hp] at he
                      subst hp
                      cases hsa : s.at la with
                      | none => rw [hsa] at he; cases he
                      | some bk =>
                        rw [hsa] at he
                        cases bk with
                        | rw u0 =>
                          simp only [Option.some.injEq, Prod.mk.injEq] at he
                          have hlen0 := (St.set_len (s := s) (a := la) (b := Blk.dead)).1
                          by_cases hroom : old.length + new.length ≤ cp
                          · -- in place
                            obtain ⟨rfl, rfl⟩ := he
                            obtain ⟨g1, cs0, g2, g3⟩ := elems_sl_sim hT hS hle h1 h2 h3
                            simp only [offOf, Option.some.injEq, Prod.mk.injEq] at h2
                            obtain ⟨rfl, rfl⟩ := h2
                            have hcs : cs0 = cx := by
                              have f1 := fxw w rfl
                              have f2 := run_firstCells_some (P := c.P) w i3.size old.length ad' old.length cp cs0 (by rw [hty.size]; exact g2.len hT) (fun j v hv => by
                                rcases h7 with h7 | h7
                                · omega
                                · rw [h7, Addr.add_mid]; exact g3 j v hv)
                              rw [hX, f2] at f1
                              simp only [Result.ok.injEq, and_true] at f1
                              have := congrArg Array.toList f1
                              simpa using this
                            subst hcs
                            have hbk := hS.blk la _ _ hsa h1
                            obtain ⟨k1, k2, C, e0, cs1, k3, k4, k5, k6⟩ := hbk
                            have hspot := h8 C.size k6
                            simp only at hspot k3
                            have hadd : ad' = ⟨ad.block, ad.off + (0 + off * c.T.size e'), none⟩ := by
                              rcases h7 with h7 | h7
                              · omega
                              · exact h7
                            have hpos := hok.pos
                            have hfit : ad.off + (0 + off * c.T.size e') + old.length * c.T.size e' + cy.length ≤ C.size := by
                              have hm1 : (old.length + new.length) * c.T.size e' ≤ cp * c.T.size e' := Nat.mul_le_mul_right _ hroom
                              rw [Nat.add_mul] at hm1
                              rw [hylen]
                              omega
                            have hst : (storeCells (ad'.add (old.length * i3.size)) cy).run c.P w = .ok () (w.setCells ad.block (ad.off + (0 + off * c.T.size e') + old.length * c.T.size e') cy) := by
                              rw [hadd, Addr.add_mid, hty.size]
                              refine run_storeCells_cells ad.block _ cy 0 w (fun j hj => ?_) (fun j hj => ?_) (CRs_one ey.cr)
                              · rw [cell?_of k3, Array.getElem?_eq_getElem (by omega)]; rfl
                              · simp [World.frozen?, k3]
                            have hrun := run_app_room (P := c.P) (w := w) (tr := q.type) hr.under hd' hd2 hr.info (ly w) (fyw w rfl) hroom hst
                            rw [← hX] at hrun
                            obtain ⟨C', j1, j2, j3⟩ := setCells_heap ad.block cy (ad.off + (0 + off * c.T.size e') + old.length * c.T.size e') k3 hfit
                            have hsep : ∀ a2 b2 ar, (s.set la .dead).at a2 = some b2 → b2 ≠ .dead → B.at a2 = some ar → ar.1.block ≠ ad.block := by
                              intro a2 b2 ar hs2 hd2 hB2
                              by_cases ha : la = a2
                              · subst ha
                                rw [St.at_set_same hsa] at hs2
                                exact absurd (Option.some.inj hs2).symm hd2
                              · rw [St.at_set_other ha] at hs2
                                exact fun e1 => hS.sep la a2 (ad, r') ar u0 b2 hsa h1 hs2 hd2 hB2 ha e1.symm
                            obtain ⟨m1, m2, m3, m4⟩ := adopt_sim (w := w) (w' := w.setCells ad.block (ad.off + (0 + off * c.T.size e') + old.length * c.T.size e') cy) (O := Own B s) (kill_sr hS la) (base := base) (by rw [hlen0]; exact hb) hwf hmay (ad := ⟨ad.block, ad.off + (0 + off * c.T.size e'), some C'.size⟩)
                              ⟨C', e0, cs0 ++ cy, j1, hcell, (fun j u hu => by
                                show C'[ad.off + (0 + off * c.T.size e') + j]? = some u
                                have hgl := g2.len hT
                                rw [j3]
                                by_cases hj : j < cs0.length
                                · rw [List.getElem?_append_left hj] at hu
                                  rw [if_neg (by omega)]
                                  have := g3 j u hu
                                  rw [cell?_of k3] at this
                                  exact this
                                · rw [List.getElem?_append_right (by omega)] at hu
                                  have hj2 := (List.getElem?_eq_some_iff.1 hu).1
                                  rw [if_pos (by omega), show ad.off + (0 + off * c.T.size e') + j - (ad.off + (0 + off * c.T.size e') + old.length * c.T.size e') = j - cs0.length by omega]
                                  exact hu), rfl⟩
                              (hS.own la u0 (ad, r') hsa h1) (setCells_frm rfl) hsep (.inl ⟨la, u0, (ad, r'), hsa, h1, rfl⟩) (fun k hk => kill_own hsa hk)
                            refine ⟨_, _, _, hexec _ _ hrun, .inl ⟨_, rfl, ?_⟩, ⟨m1, BM.ext_push, m2, m3, fun b hb hl => m4 b hb (kill_lvl hl)⟩⟩
                            refine vr_sl.2 ⟨_, _, 0, r, cp, _, push_fresh (kill_sr hS la).lenL (kill_sr hS la).lenH, rfl, by simp [Tab.elem, hr.row], fun n' e' hi => (by rw [hr.row] at hi; cases hi), hroom, fun k hk => (by cases hk), .inr ?_, ?_, rfl⟩
                            · rw [hadd]; simp
                            · intro N hN
                              simp only [Option.some.injEq] at hN
                              rw [← hN, j2]
                              simpa using hspot
                          · exact grow (s.set la .dead) (kill_stp hS hsa) (by rw [hlen0]; exact hb) (by omega) he.1.symm he.2.symm
                        | _ => cases he
                    · rw [if_neg hp] at he; cases he
                | _ => rw [hxv] at he; cases he
              · rw [if_neg hmy] at he; cases he
      · rw [if_neg hel] at he; cases he
    · cases hc
  · cases hc

theorem sim_cpy {e : Nat} {x y : Opd} {q : Oper} (hc : chkOp c (.cpy e x y) q.op = true) (he : evOp base ρ s (.cpy e x y) = some (v, s')) : OpOk c B0 base B s w a q v s' := by
  simp only [chkOp] at hc
  split at hc
  · rename_i args argTypes hq
    simp only [Bool.and_eq_true] at hc
    obtain ⟨hargs, hc⟩ := hc
    obtain ⟨x', y', rfl, hx, hy⟩ := two_args hargs
    have hx := opd_sim hx hE hG
    have hy := opd_sim hy hE hG
    split at hc
    · rename_i ty ty' hat
      have hat' : argTypes = #[ty, ty'] := by rw [← Array.toArray_toList (xs := argTypes), hat]
      subst hat'
      unfold elOk at hc
      split at hc
      · rename_i ety hu
        simp only [decide_eq_true_eq] at hc
        obtain ⟨i, d, hty⟩ := ty_of hT hm hc
        simp only [evOp, vcopy] at he
        by_cases hel : (V.slIs e (x.ev ρ) && V.elIs e (y.ev ρ)) = true
        · rw [if_pos hel] at he
          simp only [Bool.and_eq_true] at hel
          cases hln : s.elems (y.ev ρ) with
          | none => rw [hln] at he; cases he
          | some ys =>
            rw [hln] at he
            simp only at he
            obtain ⟨cy, ey, ly, fy⟩ := elems_any (P := c.P) hT hS hy hel.2 hln
            have hylen := ey.len hT
            have hexec : ∀ vv w1, (Builtin.copy_ #[ty, ty'] q.type #[a.eval x', a.eval y']).run c.P w = .ok vv w1 → (execOp a.eval q).run c.P w = .ok (.value vv) w1 := by
              intro vv w1 hh
              simp [execOp, hq, resolve, invoke, builtin, hh]
            have fyn : ∀ n, (Builtin.firstCells i.size (min ys.length n) (a.eval y')).run c.P w = .ok (cy.take (min ys.length n * c.T.size e)).toArray w := by
              intro n
              rw [hty.size]
              exact fy _ w (Nat.min_le_left _ _) rfl
            cases hxv : x.ev ρ with
            | nils =>
              rw [hxv] at he hx
              simp only [Option.some.injEq, Prod.mk.injEq] at he
              obtain ⟨rfl, rfl⟩ := he
              rw [vr_nils] at hx
              refine pureOk hS (x := goInt ((min ys.length 0 : Nat) : Int)) (hexec _ _ ?_) (vr_int.2 (by rw [Nat.min_zero]; rfl))
              rw [hx]
              exact run_cpy hu hty.info (ly w) (fyn 0) rfl
            | sl la p off len cap e' =>
              rw [hxv] at he hx
              have hee : e' = e := by
                have := hel.1
                rw [hxv] at this
                simpa [V.slIs] using this
              subst hee
              obtain ⟨ad, r', o, u, c', ad', h1, h2, h3, h4, h5, h6, h7, h8, h9⟩ := vr_sl.1 hx
              simp only at he
              by_cases h0 : min ys.length len = 0
              · rw [if_pos h0] at he
                simp only [Option.some.injEq, Prod.mk.injEq] at he
                obtain ⟨rfl, rfl⟩ := he
                refine pureOk hS (x := goInt ((min ys.length len : Nat) : Int)) (hexec _ _ ?_) (vr_int.2 (by rw [h0]; rfl))
                rw [h9]
                have f0 := fyn len
                rw [h0, Nat.zero_mul, List.take_zero] at f0
                refine run_cpy hu hty.info (ly w) (by rw [h0]; exact f0) ?_
                simp [storeCells]
              · rw [if_neg h0] at he
                cases hr : s.read la p with
                | none => rw [hr] at he; cases he
                | some rv =>
                  rw [hr] at he
                  cases rv with
                  | agg t l =>
                    simp only at he
                    by_cases hle : off + len ≤ l.length
                    · rw [if_pos hle] at he
                      generalize hnn : min ys.length len = n at he h0
                      cases hw : s.write base la p (.agg t (l.take off ++ ys.take n ++ l.drop (off + n))) with
                      | none => rw [hw] at he; cases he
                      | some s1 =>
                        rw [hw] at he
                        simp only [Option.some.injEq, Prod.mk.injEq] at he
                        obtain ⟨rfl, rfl⟩ := he
                        obtain ⟨k1, k2, cs, k3, k4, _⟩ := read_sim hT hS hr h1 h2
                        simp only [V.tag] at k2
                        subst k2
                        obtain ⟨hel0, hpos⟩ := agg_el hT k1 k3 h3
                        have hell := hel0
                        rw [← List.take_append_drop off l, ← List.take_append_drop n (l.drop off)] at hell
                        obtain ⟨p1, q1, rfl, e1, e2⟩ := hell.split
                        obtain ⟨p2, q2, rfl, e3, e4⟩ := e2.split
                        rw [List.drop_drop] at e4
                        have et := ey.take hT n (by omega)
                        have enew := (e1.app et).app e4
                        have l1 := e1.len hT
                        have l2 := e3.len hT
                        have lt := et.len hT
                        have hm1 : min off l.length = off := Nat.min_eq_left (by omega)
                        have hm2 : min n ys.length = n := Nat.min_eq_left (by omega)
                        have hm3 : min n (l.length - off) = n := Nat.min_eq_left (by omega)
                        rw [List.length_take, hm1] at l1
                        rw [List.length_take (l := ys), hm2] at lt
                        rw [List.length_take, List.length_drop, hm3] at l2
                        have hnpos : 0 < n * c.T.size e' := Nat.mul_pos (by omega) hpos
                        have hlenl : (l.take off ++ ys.take n ++ l.drop (off + n)).length = l.length := by
                          simp only [List.length_append, List.length_take, List.length_drop]
                          omega
                        have hwf : (V.agg t (l.take off ++ ys.take n ++ l.drop (off + n))).wf c.T := by
                          simp only [V.wf] at k1 ⊢
                          refine ⟨?_, enew.wf⟩
                          have hag := k1.1
                          unfold aggOk at hag ⊢
                          unfold Tab.elem at h3
                          cases hi : c.T.info t with
                          | none => rw [hi] at hag; exact hag.elim
                          | some ti =>
                            rw [hi] at hag h3
                            cases ti with
                            | st fs => cases h3
                            | arr n1 e1 => cases h3; exact ⟨by rw [hlenl]; exact hag.1, enew.tg⟩
                            | row e1 => cases h3; exact enew.tg
                        have hcr : CR c.T B (V.agg t (l.take off ++ ys.take n ++ l.drop (off + n))) (p1 ++ cy.take (n * c.T.size e') ++ q2) := by
                          simp only [CR]; exact enew.cr
                        obtain ⟨hth, hstp⟩ := write_sim hT hS hr hw h1 h2 hwf rfl hcr (fun cu hcu => by
                          simp only [CR] at hcu
                          have x1 : ElR c.T B e' l cu := ⟨hel0.wf, hcu, hel0.tg, hel0.nr⟩
                          rw [x1.len hT, enew.len hT, hlenl]) (by simp only [List.length_append]; omega)
                        have hmid : w.setCells ad.block (ad.off + o) (p1 ++ cy.take (n * c.T.size e') ++ q2) = w.setCells ad.block (ad.off + o + p1.length) (cy.take (n * c.T.size e')) := by
                          refine setCells_mid ad.block (ad.off + o) p1 _ q2 w (fun j v hv => k4 j v (by rw [List.getElem?_append_left (List.getElem?_eq_some_iff.1 hv).1]; exact hv)) (fun j v hv => ?_)
                          have := k4 (p1.length + (p2.length + j)) v (by rw [List.getElem?_append_right (by omega), Nat.add_sub_cancel_left, List.getElem?_append_right (by omega), Nat.add_sub_cancel_left]; exact hv)
                          rw [show ad.off + o + (p1.length + (cy.take (n * c.T.size e')).length) + j = ad.off + o + (p1.length + (p2.length + j)) by omega]
                          exact this
                        rw [hmid] at hstp
                        refine ⟨_, _, B, hexec (goInt (n : Int)) _ ?_, .inl ⟨_, rfl, vr_int.2 rfl⟩, hstp⟩
                        rw [h9]
                        have hadd : ad' = ⟨ad.block, ad.off + (o + off * c.T.size e'), none⟩ := by
                          rcases h7 with h7 | h7
                          · omega
                          · exact h7
                        have f0 := fyn len
                        rw [hnn] at f0
                        have := run_cpy (tr := q.type) (ty' := ty') (dc := c') (dl := len) (ba := some ad') hu hty.info (ly w) (by rw [hnn]; exact f0) (w' := w.setCells ad.block (ad.off + o + p1.length) (cy.take (n * c.T.size e'))) (by
                          show (storeCells ad' _).run c.P w = _
                          rw [hadd]
                          have hthere : ∀ j, j < (cy.take (n * c.T.size e')).length → (w.cell? ⟨ad.block, ad.off + (o + off * c.T.size e') + 0 + j, none⟩).isSome = true ∧ w.frozen? ⟨ad.block, ad.off + (o + off * c.T.size e') + 0 + j, none⟩ = false := by
                            intro j hj
                            have := hth (p1.length + j) (by simp only [List.length_append]; omega)
                            rw [show ad.off + o + (p1.length + j) = ad.off + (o + off * c.T.size e') + 0 + j by omega] at this
                            exact this
                          have hst := run_storeCells_cells (P := c.P) ad.block (ad.off + (o + off * c.T.size e')) (cy.take (n * c.T.size e')) 0 w (fun j hj => (hthere j hj).1) (fun j hj => (hthere j hj).2) (CRs_one et.cr)
                          rw [hst]
                          congr 2
                          omega)
                        rw [hnn] at this
                        exact this
                    · rw [if_neg hle] at he; cases he
                  | _ => cases he
            | _ => rw [hxv] at hel; simp [V.slIs] at hel
        · rw [if_neg hel] at he; cases he
      · cases hc
    · cases hc
  · cases hc
end sims
end Go.Ab
