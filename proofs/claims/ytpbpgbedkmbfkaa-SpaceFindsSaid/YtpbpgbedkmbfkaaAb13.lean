/-
  Ab13: the simulation of literals, of made slices, of equality.
-/
import Derived.Test.YtpbpgbedkmbfkaaAb12
namespace Go.Ab

/-! ### Literals -/
theorem parts_sim {T : Tab} {gl : GL} {B : BM} {ρ : Env} {a : Act} : ∀ {ps : List (Nat × Opd)} {qs : List (Nat × Operand)}, partsOk gl ps qs = true → ER T B ρ a.tmps → GlobR gl B →
    All2 (fun p q => p.1 = q.1 ∧ VR T B p.2 q.2) (ps.map fun p => (p.1, p.2.ev ρ)) (qs.map fun q => (q.1, a.eval q.2))
  | [], [], _, _, _ => trivial
  | (i, x) :: ps, (j, y) :: qs, h, hE, hG => by
    simp only [partsOk, Bool.and_eq_true, decide_eq_true_eq] at h
    exact ⟨⟨h.1.1, opd_sim h.1.2 hE hG⟩, parts_sim h.2 hE hG⟩
  | [], _ :: _, h, _, _ => by simp [partsOk] at h
  | _ :: _, [], h, _, _ => by simp [partsOk] at h

theorem foldl_set (o : Nat) : ∀ (l : List Value) (k : Nat) (cs : Array Value), o + k + l.length ≤ cs.size →
    ((l.zipIdx k).foldl (fun cs (p : Value × Nat) => cs.setIfInBounds (o + p.2) p.1) cs).size = cs.size ∧ ∀ j, ((l.zipIdx k).foldl (fun cs (p : Value × Nat) => cs.setIfInBounds (o + p.2) p.1) cs)[j]? = if o + k ≤ j ∧ j < o + k + l.length then l[j - (o + k)]? else cs[j]?
  | [], k, cs, _ => ⟨rfl, fun j => by rw [if_neg (by simp only [List.length_nil]; omega)]; rfl⟩
  | v :: l, k, cs, h => by
    simp only [List.length_cons] at h
    rw [List.zipIdx_cons, List.foldl_cons]
    obtain ⟨h1, h2⟩ := foldl_set o l (k + 1) (cs.setIfInBounds (o + k) v) (by simp; omega)
    refine ⟨by rw [h1]; simp, fun j => ?_⟩
    rw [h2 j]
    simp only [List.length_cons]
    by_cases hj : j = o + k
    · subst hj
      rw [if_neg (by omega), if_pos (by omega), Nat.sub_self]
      simp [show o + k < cs.size by omega]
    · by_cases hj2 : o + (k + 1) ≤ j ∧ j < o + (k + 1) + l.length
      · rw [if_pos hj2, if_pos (by omega), show j - (o + k) = (j - (o + (k + 1))) + 1 by omega, List.getElem?_cons_succ]
      · rw [if_neg hj2, if_neg (by omega)]
        simp [Ne.symm hj]

theorem fill_one {cells : Array Value} {a b z d : List Value} (h : cells.toList = a ++ b ++ z) (hd : d.length = b.length) (v : Value) (hv : v.cells.toList = d) :
    (v.cells.zipIdx.foldl (fun cs (c, j) => cs.setIfInBounds (a.length + j) c) cells).toList = a ++ d ++ z := by
  have hsz : cells.size = a.length + b.length + z.length := by rw [← Array.length_toList, h]; simp; omega
  have e1 : v.cells.zipIdx.foldl (fun cs (c, j) => cs.setIfInBounds (a.length + j) c) cells = (d.zipIdx 0).foldl (fun cs (p : Value × Nat) => cs.setIfInBounds (a.length + p.2) p.1) cells := by
    rw [← Array.foldl_toList, Array.toList_zipIdx, hv]
  rw [e1]
  obtain ⟨h1, h2⟩ := foldl_set a.length d 0 cells (by omega)
  apply List.ext_getElem?
  intro j
  rw [Array.getElem?_toList, h2 j, Nat.add_zero]
  by_cases hj : a.length ≤ j ∧ j < a.length + d.length
  · rw [if_pos hj, List.append_assoc, List.getElem?_append_right hj.1, List.getElem?_append_left (by omega)]
  · rw [if_neg hj, ← Array.getElem?_toList, h]
    by_cases hj2 : j < a.length
    · rw [List.append_assoc, List.getElem?_append_left hj2, List.append_assoc, List.getElem?_append_left hj2]
    · rw [List.append_assoc, List.getElem?_append_right (by omega), List.getElem?_append_right (by omega), List.append_assoc, List.getElem?_append_right (by omega), List.getElem?_append_right (by omega), hd]

theorem fill_sim {T : Tab} (hT : tabOk T = true) {B : BM} (place : Nat → Option (Nat × Nat)) (tags : List Nat) (hnr : ∀ t ∈ tags, T.noRow t = true) (hplace : ∀ i t, tags[i]? = some t → place i = some (T.sum (tags.take i), T.size t)) :
    ∀ {ps : List (Nat × V)} {qs : List (Nat × Value)} {l l' : List V} {cells : Array Value}, All2 (fun p q => p.1 = q.1 ∧ VR T B p.2 q.2) ps qs → l.map V.tag = tags → V.wfs T l → CRs T B l cells.toList → setParts l ps = some l' →
      ∃ cells', Instr.fill place cells qs = some cells' ∧ l'.map V.tag = tags ∧ V.wfs T l' ∧ CRs T B l' cells'.toList
  | [], [], l, l', cells, _, ht, hw, hc, hs => by
    simp only [setParts, Option.some.injEq] at hs
    subst hs
    exact ⟨cells, rfl, ht, hw, hc⟩
  | (i, x) :: ps, (j, y) :: qs, l, l', cells, h, ht, hw, hc, hs => by
    obtain ⟨⟨h1, h2⟩, h3⟩ := h
    simp only at h1 h2
    subst h1
    simp only [setParts] at hs
    cases hy : l[i]? with
    | none => rw [hy] at hs; cases hs
    | some u =>
      rw [hy] at hs
      simp only at hs
      by_cases hok : (x.ok && x.tag == u.tag) = true
      · rw [if_pos hok] at hs
        simp only [Bool.and_eq_true, beq_iff_eq] at hok
        obtain ⟨k1, k2, k3⟩ := (VR_ok hok.1).1 h2
        have hmem : u.tag ∈ tags := by rw [← ht]; exact List.mem_map_of_mem (List.mem_of_getElem? hy)
        obtain ⟨a, b, z, hcs, hal, hwu, hcu, hput⟩ := CRs_split hT hw hc (fun v hv => hnr _ (by rw [← ht]; exact List.mem_map_of_mem hv)) hy
        have hb : b.length = T.size u.tag := CR_len hT hwu hcu (hnr _ hmem)
        have hd : y.cells.toList.length = T.size u.tag := by rw [← hok.2]; exact CR_len hT k1 k2 (by rw [hok.2]; exact hnr _ hmem)
        have hti : tags[i]? = some u.tag := by rw [← ht, List.getElem?_map, hy]; rfl
        have hpl := hplace i _ hti
        have hoff : a.length = T.sum (tags.take i) := by rw [hal, ← ht, List.map_take]
        have hsz : cells.size = a.length + b.length + z.length := by rw [← Array.length_toList, hcs]; simp; omega
        have hyc : y.cells.size = T.size u.tag := by rw [← Array.length_toList]; exact hd
        have hfo := fill_one hcs (by rw [hd, hb]) y rfl
        obtain ⟨cells', g1, g2, g3, g4⟩ := fill_sim hT place tags hnr hplace (cells := y.cells.zipIdx.foldl (fun cs (c, j) => cs.setIfInBounds (a.length + j) c) cells) h3 (by rw [map_set_same hy hok.2]; exact ht) (wfs_set hw k1) (by rw [hfo]; exact hput _ _ k2) hs
        refine ⟨cells', ?_, g2, g3, g4⟩
        simp only [Instr.fill, hpl]
        rw [if_neg (by
          rw [hyc, ← hoff, hsz, hb]
          simp)]
        rw [← hoff]
        exact g1
      · rw [if_neg hok] at hs; cases hs
  | [], _ :: _, _, _, _, h, _, _, _, _ => h.elim
  | _ :: _, [], _, _, _, h, _, _, _, _ => h.elim

theorem sum_take_rep {T : Tab} {e : Nat} : ∀ {n i : Nat}, i ≤ n → T.sum ((List.replicate n e).take i) = i * T.size e
  | _, 0, _ => by simp [Tab.sum]
  | 0, i + 1, h => by omega
  | n + 1, i + 1, h => by
    rw [List.replicate_succ, List.take_succ_cons, Tab.sum, sum_take_rep (by omega), Nat.succ_mul]
    omega

/-! ### Rows of zeros -/
theorem CRs_rep {T : Tab} {B : BM} {z : V} {cz : List Value} (h : CR T B z cz) : ∀ n, CRs T B (List.replicate n z) (List.replicate n cz).flatten
  | 0 => by simp [CRs]
  | n + 1 => by
    rw [List.replicate_succ, List.replicate_succ, List.flatten_cons]
    simp only [CRs]
    exact ⟨_, _, rfl, h, CRs_rep h n⟩
theorem wfs_rep {T : Tab} {z : V} (h : z.wf T) (n : Nat) : V.wfs T (List.replicate n z) := wfs_iff.2 fun x hx => by rw [List.eq_of_mem_replicate hx]; exact h
theorem flatten_rep_get {cz : List Value} (hp : 0 < cz.length) : ∀ (n i : Nat), i < n * cz.length → (List.replicate n cz).flatten[i]? = cz[i % cz.length]?
  | 0, i, h => by omega
  | n + 1, i, h => by
    rw [List.replicate_succ, List.flatten_cons]
    by_cases hi : i < cz.length
    · rw [List.getElem?_append_left hi, Nat.mod_eq_of_lt hi]
    · rw [List.getElem?_append_right (by omega), flatten_rep_get hp n (i - cz.length) (by have := Nat.succ_mul n cz.length; simp only [Nat.succ_eq_add_one] at this; omega)]
      conv => rhs; rw [Nat.mod_eq_sub_mod (by omega)]
theorem made_get (z : Array Value) (hp : 0 < z.size) (m i : Nat) (hi : i < m) : ((Array.range m).map (z[· % z.size]!))[i]? = z[i % z.size]? := by
  have : i % z.size < z.size := Nat.mod_lt _ hp
  simp [hi, this]
theorem made_toList {z : Array Value} (hp : 0 < z.size) (n : Nat) : ((Array.range (n * z.size)).map (z[· % z.size]!)).toList = (List.replicate n z.toList).flatten := by
  apply List.ext_getElem?
  intro i
  rw [Array.getElem?_toList]
  by_cases hi : i < n * z.size
  · rw [made_get z hp _ _ hi, flatten_rep_get (by simpa using hp) n i (by simpa using hi)]
    simp
  · rw [Array.getElem?_eq_none (by simp; omega), List.getElem?_eq_none (by simp; omega)]
theorem made_lies {z : Array Value} (hp : 0 < z.size) {n m : Nat} (hnm : n ≤ m) : Lies ((Array.range (m * z.size)).map (z[· % z.size]!)) 0 (List.replicate n z.toList).flatten := by
  intro i x hx
  have hi : i < n * z.size := by
    have := (List.getElem?_eq_some_iff.1 hx).1
    simpa using this
  rw [Nat.zero_add, made_get z hp _ _ (Nat.lt_of_lt_of_le hi (Nat.mul_le_mul_right _ hnm))]
  rw [flatten_rep_get (by simpa using hp) n i (by simpa using hi)] at hx
  simpa using hx

theorem even_locLt {T : Tab} {b : Nat} : ∀ {v : V}, v.wf T → v.tag % 2 = 0 → v.locLt b = true
  | .agg t l, _, h => by simp only [V.tag] at h; simp only [V.locLt, h, beq_self_eq_true, Bool.true_or]
  | .dead, h, _ => h.elim
  | .tup _, h, _ => h.elim
  | .bool _, _, _ => by simp only [V.locLt]
  | .int _ _, _, _ => by simp only [V.locLt]
  | .str _, _, _ => by simp only [V.locLt]
  | .nilp, _, h => by simp [V.tag] at h
  | .nils, _, h => by simp [V.tag] at h
  | .nilf, _, h => by simp [V.tag] at h
  | .ptr _ _ _, _, h => by simp [V.tag] at h
  | .sl _ _ _ _ _ _, _, h => by simp [V.tag] at h
  | .fn _ _, _, h => by simp [V.tag] at h

structure RowB (c : Cfg) (ty r e ety : Nat) (i : TypeInfo) : Prop where
  under : c.P.underlying ty = some (.slice ety)
  el : tg c.tm ety = some e
  row : c.T.info r = some (.row e)
  info : c.P.info? ety = some i
  bytes : i.bytes ≤ 65536
  zero : ∃ z, i.zero = some z ∧ z.cells.size = i.size
theorem rowB_of {c : Cfg} {ty r e : Nat} (h : rowOkB c ty r e = true) : ∃ ety i, RowB c ty r e ety i := by
  unfold rowOkB at h
  split at h
  · rename_i ety hu
    simp only [Bool.and_eq_true, decide_eq_true_eq] at h
    obtain ⟨⟨h1, h2⟩, h3⟩ := h
    cases hi : c.P.info? ety with
    | none => rw [hi] at h3; cases h3
    | some i =>
      rw [hi] at h3
      simp only [Bool.and_eq_true, decide_eq_true_eq] at h3
      refine ⟨ety, i, hu, h1, h2, hi, h3.1, ?_⟩
      cases hz : i.zero with
      | none => rw [hz] at h3; cases h3.2
      | some z => rw [hz] at h3; exact ⟨z, rfl, of_decide_eq_true h3.2⟩
  · cases h

section sims
variable {c : Cfg} (hT : tabOk c.T = true) (hm : tmOk c = true) {B0 base : Nat} {B : BM} {s s' : St} {w : World} {a : Act} {ρ : Env} {v : V}
  (hE : ER c.T B ρ a.tmps) (hG : GlobR c.gl B) (hS : SR c.T B0 B s w) (hb : base ≤ s.loc.length) (hB0 : B0 ≤ w.heap.size)
include hE hG hS

include hT hm in
theorem sim_bld {z : V} {ps : List (Nat × Opd)} {q : Oper} (hc : chkOp c (.bld z ps) q.op = true) (he : evOp base ρ s (.bld z ps) = some (v, s')) : OpOk c B0 base B s w a q v s' := by
  simp only [chkOp] at hc
  split at hc
  · rename_i ty qs hq
    simp only [Bool.and_eq_true] at hc
    obtain ⟨i, x, hz⟩ := zOk_of hc.1
    have hps := parts_sim hc.2 hE hG
    obtain ⟨i', d, hty⟩ := ty_of hT hm hz.tag
    simp only [evOp] at he
    cases z with
    | agg t l =>
      simp only at he
      cases hsp : setParts l (ps.map fun p => (p.1, p.2.ev ρ)) with
      | none => rw [hsp] at he; cases he
      | some l' =>
        rw [hsp] at he
        simp only [Option.some.injEq, Prod.mk.injEq] at he
        obtain ⟨rfl, rfl⟩ := he
        have hwz := hz.wf
        simp only [V.wf] at hwz
        have hcz := hz.cr B
        simp only [CR] at hcz
        have hag := hwz.1
        unfold aggOk at hag
        have hinfo : i' = i := by have := hty.info; rw [hz.info] at this; exact (Option.some.inj this).symm
        subst hinfo
        have fin : ∀ cells', c.P.built ty (qs.toList.map fun q => (q.1, a.eval q.2)) = some cells' → aggOk c.T t l' → V.wfs c.T l' → CRs c.T B l' cells'.toList → OpOk c B0 base B s w a q (.agg t l') s := by
          intro cells' hbt h1 h2 h3
          have hrb := run_build (P := c.P) w ty ((qs.map fun q => (q.1, a.eval q.2))) cells' (by rw [Array.toList_map]; exact hbt)
          exact pureOk hS (x := .agg cells') (by simp only [execOp, hq]; simp [hrb]) (vr_agg.2 ⟨cells', rfl, h1, h2, h3⟩)
        cases hti : c.T.info t with
        | none => rw [hti] at hag; exact hag.elim
        | some ti =>
          rw [hti] at hag
          cases ti with
          | st ts =>
            simp only at hag
            obtain ⟨fs, rfl, hlen, _, hfs⟩ := tyStruct hty hti
            have hok := stOk hT hti
            have hmap : fs.toList.mapM (fun f => (c.P.info? f.type).map fun i => (f.offset, i.size)) = some ((List.range fs.size).map fun j => (c.T.sum (ts.take j), c.T.size (ts.getD j 0))) := by
              have key : ∀ (gs : List Field) (k : Nat), (∀ j f, gs[j]? = some f → ∃ u, ts[k + j]? = some u ∧ f.offset = c.T.sum (ts.take (k + j)) ∧ tg c.tm f.type = some u) →
                  gs.mapM (fun f => (c.P.info? f.type).map fun i => (f.offset, i.size)) = some ((List.range' k gs.length).map fun j => (c.T.sum (ts.take j), c.T.size (ts.getD j 0))) := by
                intro gs
                induction gs with
                | nil => intro k _; simp
                | cons f gs ih =>
                  intro k hk
                  obtain ⟨u, g1, g2, g3⟩ := hk 0 f rfl
                  obtain ⟨i2, d2, hty2⟩ := ty_of hT hm g3
                  have hr := ih (k + 1) (fun j f hf => by
                    have := hk (j + 1) f (by simpa using hf)
                    rw [show k + 1 + j = k + (j + 1) by omega]
                    exact this)
                  simp only [Nat.add_zero] at g1 g2
                  rw [List.mapM_cons, hr]
                  simp [List.range'_succ, hty2.info, g2, hty2.size, List.getD_eq_getElem?_getD, g1]
              have := key fs.toList 0 (fun j f hf => by
                obtain ⟨u, g1, g2, g3, _⟩ := hfs j f (by simpa using hf)
                exact ⟨u, by simpa using g1, by simpa using g2, g3⟩)
              rw [this]
              simp [List.range_eq_range']
            obtain ⟨cells', g1, g2, g3, g4⟩ := fill_sim hT (B := B) (fun j => ((List.range fs.size).map fun j => (c.T.sum (ts.take j), c.T.size (ts.getD j 0))).toArray[j]?) ts hok.nr (fun j u hj => by
              have hjl : j < fs.size := by rw [← hlen]; exact (List.getElem?_eq_some_iff.1 hj).1
              simp [hjl, List.getD_eq_getElem?_getD, hj]) hps hag hwz.2 hcz hsp
            exact fin cells' (by simp only [Program.built, hty.info, hty.under, hz.zero, hmap]; exact g1) (by unfold aggOk; rw [hti]; exact g2) g3 g4
          | arr n e =>
            simp only at hag
            obtain ⟨ety, rfl, hety⟩ := tyArray hty hti
            obtain ⟨i2, d2, hty2⟩ := ty_of hT hm hety
            have hok := arrOk hT hti
            have htags : l.map V.tag = List.replicate n e := by
              rw [List.eq_replicate_iff]
              exact ⟨by rw [List.length_map]; exact hag.1, fun u hu => by obtain ⟨y, hy, rfl⟩ := List.mem_map.1 hu; exact hag.2 y hy⟩
            obtain ⟨cells', g1, g2, g3, g4⟩ := fill_sim hT (B := B) (fun j => some (j * c.T.size e, c.T.size e)) (List.replicate n e) (fun u hu => by rw [List.eq_of_mem_replicate hu]; exact hok.nr) (fun j u hj => by
              have hjl : j < n := by have := (List.getElem?_eq_some_iff.1 hj).1; simpa using this
              have hu : u = e := List.eq_of_mem_replicate (List.mem_of_getElem? hj)
              rw [sum_take_rep (by omega), hu]) hps htags hwz.2 hcz hsp
            exact fin cells' (by simp only [Program.built, hty.info, hty.under, hz.zero, hty2.info, hty2.size]; exact g1) (by
              unfold aggOk
              rw [hti]
              have := List.eq_replicate_iff.1 g2
              exact ⟨by have := this.1; rwa [List.length_map] at this, fun u hu => this.2 _ (List.mem_map_of_mem hu)⟩) g3 g4
          | row e => exact (tyNoRow hty hti).elim
    | _ => cases he
  · cases hc

include hT hm hb hB0 in
theorem sim_bsl {h : Bool} {r e n : Nat} {z : V} {ps : List (Nat × Opd)} {q : Oper} (hc : chkOp c (.bsl h r e z n ps) q.op = true) (he : evOp base ρ s (.bsl h r e z n ps) = some (v, s')) : OpOk c B0 base B s w a q v s' := by
  simp only [chkOp] at hc
  split at hc
  · rename_i ty n' qs hq
    simp only [Bool.and_eq_true, decide_eq_true_eq] at hc
    obtain ⟨⟨⟨⟨rfl, hrow⟩, hpo⟩, hzo⟩, hsmall⟩ := hc
    obtain ⟨ety, i, hr⟩ := rowB_of hrow
    rw [hr.under] at hzo
    simp only at hzo
    obtain ⟨i2, x, hz⟩ := zOk_of hzo
    have hps := parts_sim hpo hE hG
    have hze : z.tag = e := by have := hz.tag; rw [hr.el] at this; exact (Option.some.inj this).symm
    obtain ⟨i3, d, hty⟩ := ty_of hT hm hr.el
    have hok := rowOk hT hr.row
    have hxl : x.cells.toList.length = c.T.size e := by rw [← hze]; exact CR_len hT hz.wf (hz.cr B) (by rw [hze]; exact hok.nr)
    have hxs : x.cells.size = c.T.size e := by rw [← Array.length_toList]; exact hxl
    have hxp : 0 < x.cells.size := by rw [hxs]; exact hok.pos
    simp only [evOp] at he
    cases hsp : setParts (List.replicate n z) (ps.map fun p => (p.1, p.2.ev ρ)) with
    | none => rw [hsp] at he; cases he
    | some l' =>
      rw [hsp] at he
      simp only at he
      by_cases hmy : e % 2 = 0 ∨ mayNew h (.agg 1 l') = true
      · rw [if_pos hmy] at he
        simp only [Option.some.injEq, Prod.mk.injEq] at he
        obtain ⟨rfl, rfl⟩ := he
        have hcr := CRs_rep (hz.cr B) n
        rw [← made_toList hxp n] at hcr
        obtain ⟨cells', g1, g2, g3, g4⟩ := fill_sim hT (B := B) (fun j => some (j * c.T.size e, c.T.size e)) (List.replicate n e) (fun u hu => by rw [List.eq_of_mem_replicate hu]; exact hok.nr) (fun j u hj => by
          have hjl : j < n := by have := (List.getElem?_eq_some_iff.1 hj).1; simpa using this
          have hu : u = e := List.eq_of_mem_replicate (List.mem_of_getElem? hj)
          rw [sum_take_rep (by omega), hu]) hps (by rw [List.map_replicate, hze]) (wfs_rep hz.wf n) hcr hsp
        have hl' := List.eq_replicate_iff.1 g2
        have hwf : (V.agg r l').wf c.T := by
          simp only [V.wf]
          refine ⟨?_, g3⟩
          unfold aggOk
          rw [hr.row]
          exact fun u hu => hl'.2 _ (List.mem_map_of_mem hu)
        have hmay : mayNew h (.agg r l') = true := by
          cases h with
          | false => rfl
          | true =>
            simp only [mayNew, Bool.not_true, Bool.false_or, V.locLt, Bool.or_eq_true, beq_iff_eq] at hmy ⊢
            rcases hmy with h1 | h1
            · right
              rw [locLts_iff]
              intro u hu
              have hut : u.tag = e := hl'.2 _ (List.mem_map_of_mem hu)
              have hwu := wfs_iff.1 g3 u hu
              exact even_locLt hwu (by rw [hut]; exact h1)
            · rcases h1 with h1 | h1
              · omega
              · exact .inr h1
        have hcell : CR c.T B (.agg r l') cells'.toList := by simp only [CR]; exact g4
        refine ⟨_, _, _, ?_, .inl ⟨.slice (some ⟨w.heap.size, 0, none⟩) n n, rfl, ?_⟩, new_sim hS hb hB0 hwf hmay hcell (c := cells') (fun i u hu => by rw [Nat.zero_add]; simpa using hu) ety⟩
        · have hse : (sizeOf ety).run c.P w = .ok (c.T.size e) w := sizeOf_run hty w
          have hzr : (zeroValue ety).run c.P w = .ok x w := by simp [zeroValue, typeInfo, hz.info, hz.zero]
          have hlist : (qs.map fun q => (q.1, a.eval q.2)).toList = qs.toList.map fun q => (q.1, a.eval q.2) := Array.toList_map
          simp only [execOp, hq, Instr.buildSlice, Sem.run_bind, run_underlying hr.under, Result.andThen_ok, hse]
          rw [if_neg (by omega)]
          by_cases h0 : n * c.T.size e = 0
          · have hf : Instr.fill (fun i => some (i * c.T.size e, c.T.size e)) ((Array.range (n * c.T.size e)).map fun _ => (default : Value)) (qs.toList.map fun q => (q.1, a.eval q.2)) = some cells' := by
              rw [hxs, h0] at g1
              rw [h0]
              have e0 : Array.range 0 = #[] := rfl
              rw [e0] at g1 ⊢
              simp only [Array.map_empty] at g1 ⊢
              exact g1
            simp [h0, newRow] at hf ⊢
            simp [hf]
          · have hf : Instr.fill (fun i => some (i * c.T.size e, c.T.size e)) ((Array.range (n * c.T.size e)).map (x.cells[· % x.cells.size]!)) (qs.toList.map fun q => (q.1, a.eval q.2)) = some cells' := by
              rw [hxs] at g1 ⊢; exact g1
            simp only [Sem.run_bind, Sem.run_pure, Result.andThen_ok, if_neg h0, hzr, hlist, hf]
            simp [newRow]
        · refine vr_sl.2 ⟨_, _, 0, r, n, _, push_fresh hS.lenL hS.lenH, rfl, by simp [Tab.elem, hr.row], fun n' e' hi => (by rw [hr.row] at hi; cases hi), Nat.le_refl _, fun k hk => (by cases hk; rfl), .inr ?_, ?_, rfl⟩
          · simp
          · have htag : ∀ u ∈ l', u.tag = e := fun u hu => hl'.2 _ (List.mem_map_of_mem hu)
            have hlen := CRs_len hT g3 g4 (fun u hu => by rw [htag u hu]; exact (rowOk hT hr.row).nr)
            rw [sum_const htag] at hlen
            have hn' : l'.length = n := by simpa using hl'.1
            rw [hn'] at hlen
            intro N hN
            simp only [Option.some.injEq] at hN
            rw [← hN]
            simp only [Array.length_toList] at hlen
            simp [hlen]
      · rw [if_neg hmy] at he; cases he
  · cases hc
end sims
end Go.Ab
