/-
  YtnffmibpblibdaaDoorT4: what functions of the program compute (LobD, LobE, LobF).
-/
import Derived.Test.YtnffmibpblibdaaDoorT3
set_option maxRecDepth 100000
namespace Go.Proofs.YtnffmibpblibdaaDoor
open Go.Ab
section
variable {hp hp' : List Blk} {F G G' Fm : Ft} {a m fr : Nat} {x : AS}
theorem room_loop0 {v w : V} {ln : Int} (h0 : -9223372036854775808 ≤ ln) (h1 : ln ≤ 9223372036854775807) (hv : v.locLt 0 = true) (hw : w.locLt 0 = true) : ∀ (N : Nat) {hp : List Blk} {x : AS}, x.A.left ≤ N → StoQ hp Fm a m fr x → Inv x →
    ∃ hp' A', rc D 0 (.loop [0, 1, 2, 10] b_steadfastlaw10_ObjectsRoom_0) [(0, .int .i64 ln), (1, v), (2, w), (10, .ptr (.hp a) [] 43)] ⟨[], hp⟩ =
      some (.exit 0, [(0, .int .i64 ln), (1, v), (2, w), (10, .ptr (.hp a) [] 43), (48, .bool false)], ⟨[], hp'⟩) ∧ StoQ hp' Fm a m fr { x with A := A' } ∧ Inv { x with A := A' } ∧ Chg hp hp' (StF3 a fr Fm) (StF3 a fr Fm) := by
  intro N
  induction N with
  | zero =>
    intro hp x hN h hI
    have hl := rf_sp_Left h
    have hk := rf_kind10 ln 20 h0 h1 (by decide)
    obtain ⟨k0, k1⟩ := kd_range ln (n := 20) (by decide)
    refine ⟨hp, x.A, ?_, h, hI, .refl _ _⟩
    have c : ¬ kd ln 20 < (x.A.left : Int) := by omega
    generalize kd ln 20 = kl at *
    rw [rc_loop_o]
    simp only [go_sem, b_steadfastlaw10_ObjectsRoom_0, hl, hk, c]
  | succ N ih =>
    intro hp x hN h hI
    have hl := rf_sp_Left h
    have hk := rf_kind10 ln 20 h0 h1 (by decide)
    obtain ⟨k0, k1⟩ := kd_range ln (n := 20) (by decide)
    by_cases c : kd ln 20 < (x.A.left : Int)
    · obtain ⟨hp1, e1, e2, e3⟩ := rf_sp_Take h []
      rcases take_spec hI with ⟨z, _⟩ | ⟨k, _, _, _, q1, q2, q3⟩
      · omega
      · rw [q1] at e1 e2
        simp only at e1 e2
        obtain ⟨hp2, A2, w1, w2, w3, w4⟩ := ih (by simp only; omega) e2 q2
        refine ⟨hp2, A2, ?_, w2, w3, e3.trans w4⟩
        rw [← w1, rc_loop_o]
        generalize kd ln 20 = kl at *
        simp only [go_sem, b_steadfastlaw10_ObjectsRoom_0, hl, hk, c, e1, hv, hw]
    · refine ⟨hp, x.A, ?_, h, hI, .refl _ _⟩
      generalize kd ln 20 = kl at *
      rw [rc_loop_o]
      simp only [go_sem, b_steadfastlaw10_ObjectsRoom_0, hl, hk, c]
/-- A slice that is empty among the locals, or on the heap its own. -/
def LSl (hp : List Blk) (G : Ft) (e r : Nat) (v : V) (l : List V) : Prop := (v = .sl (.loc 0) [] 0 0 (some 0) e ∧ l = []) ∨ SlR hp G e r v l
theorem LSl.rs {e r : Nat} {v : V} {l : List V} (h : LSl hp G e r v l) (b : Blk) (L : List Blk) : RS ⟨b :: L, hp⟩ e v l := by
  rcases h with ⟨rfl, rfl⟩ | h
  · exact .inr ⟨_, _, _, _, rfl, fun c hc => (by cases hc; exact Nat.le_refl _), by simp [V.locLt], .inl rfl⟩
  · exact h.rs _
theorem LSl.eqv {e r : Nat} {v : V} {l : List V} (h : LSl hp G e r v l) (he : Eqv hp hp' G) : LSl hp' G e r v l := h.imp_right fun h => h.eqv he fun _ hj => hj
theorem LSl.push {e r : Nat} {v : V} {l : List V} (h : LSl hp G e r v l) {base : Nat} {y : V} {new : List V} (b : Blk) (L : List Blk) (hy : y = .nils ∨ ∃ a p o n c, y = .sl a p o n c e) (h2 : St.elems ⟨b :: L, hp⟩ y = some new) (hn : new ≠ []) (hm : l.length + new.length ≤ most) (he : e % 2 = 0) :
    ∃ hp' v', vappend base true r e v y ⟨b :: L, hp⟩ = some (v', ⟨b :: L, hp'⟩) ∧ SlR hp' (.one hp.length) e r v' (l ++ new) ∧ Chg hp hp' G (.one hp.length) := by
  rcases h with ⟨rfl, rfl⟩ | h
  · have : (0 : Nat) < new.length := List.length_pos_iff.2 hn
    have := app_gen (base := base) (h := true) (r := r) (s := ⟨b :: L, hp⟩) (x := .sl (.loc 0) [] 0 0 (some 0) e) (old := []) (.inr ⟨_, _, _, _, _, rfl⟩) hy rfl h2 hn hm (.inl he)
    refine ⟨hp ++ [.rw (.agg r ([] ++ new))], .sl (.hp hp.length) [] 0 ([] ++ new).length none e, ?_, SlR.blk (G := Ft.one hp.length) hp.length none ([] ++ new) (.inl rfl) rfl List.getElem?_concat_length, ⟨by simp, fun j hj _ => List.getElem?_append_left hj, fun j hj => .inr (by rw [hj]; exact Nat.le_refl _)⟩⟩
    rw [this]
    simp only [appTo, Option.map_some, List.length_nil, Nat.zero_add, List.length_pos_iff.2 hn, decide_true, if_true]
    simp [St.fresh, St.new]
  · obtain ⟨hp', e1, e2, e3, e4⟩ := h.push (base := base) (b :: L) hy h2 hn hm (.inl he)
    exact ⟨hp', _, e1, .blk _ none _ (.inl rfl) rfl e3, ⟨by omega, e4, fun j hj => .inr (by rw [hj]; exact Nat.le_refl _)⟩⟩
def kdL (l : List Int) (n : Nat) : List Int := (l.take n).map (kd · 12)
theorem kdL_succ {l : List Int} {n : Nat} (h : n < l.length) : kdL l (n + 1) = kdL l n ++ [kd (l.getD n 0) 12] := by
  unfold kdL
  rw [List.take_succ_eq_append_getElem h, List.map_append]
  simp [List.getD_eq_getElem?_getD, h]
theorem room_loop1 {H : List Blk} (hz : 0 < H.length) {v w : V} {l : List Int} (hl : ∀ x ∈ l, -9223372036854775808 ≤ x ∧ x ≤ 9223372036854775807) (hv : RS ⟨[], H⟩ 10 v (l.map (.int .i64))) (hlt : v.locLt 0 = true) (hw : w.locLt 0 = true) : ∀ (n i : Nat) {hp : List Blk} {G : Ft} {u : V}, i + n = min l.length 20 → LSl hp G 10 38 u ((kdL l i).map (.int .i64)) → H <+: hp → StoQ hp Fm a m fr x → Above H.length (StF3 a fr Fm) → Apart G (StF3 a fr Fm) → Above H.length G →
    ∃ hp' G' u', rc D 0 (.loop [1, 2, 10, 12, 13] b_steadfastlaw10_ObjectsRoom_1) [(1, v), (2, w), (10, .ptr (.hp a) [] 43), (12, u), (13, .int .i64 i)] ⟨[.rw (.agg 38 [])], hp⟩ =
      some (.exit 2, [(1, v), (2, w), (10, .ptr (.hp a) [] 43), (12, u'), (13, .int .i64 (min l.length 20 : Nat)), (59, .bool false)], ⟨[.rw (.agg 38 [])], hp'⟩) ∧ LSl hp' G' 10 38 u' ((kdL l (min l.length 20)).map (.int .i64)) ∧ StoQ hp' Fm a m fr x ∧ Apart G' (StF3 a fr Fm)
  | 0, i, hp, G, u, hi, h, hpre, hQ, _, ha, _ => by
    have : i = min l.length 20 := by omega
    rw [this] at h
    subst this
    refine ⟨hp, G, u, ?_, h, hQ, ha⟩
    have hs := hv.slen
    rw [List.length_map] at hs
    rw [rc_loop_o]
    by_cases c1 : ((min l.length 20 : Nat) : Int) < l.length
    · have c2 : ¬ ((min l.length 20 : Nat) : Int) < 20 := by omega
      generalize min l.length 20 = q at *
      simp only [go_sem, b_steadfastlaw10_ObjectsRoom_1, hs, c1, c2]
    · generalize min l.length 20 = q at *
      simp only [go_sem, b_steadfastlaw10_ObjectsRoom_1, hs, c1]
  | n + 1, i, hp, G, u, hi, h, hpre, hQ, hab, ha, hg => by
    have hs := hv.slen
    rw [List.length_map] at hs
    have hil : i < l.length := by omega
    have hHl := hpre.length_le
    have hmem := hl _ (getD_mem hil 0)
    have hk := rf_kind10 (l.getD i 0) 12 hmem.1 hmem.2 (by decide)
    have hlen : (kdL l i).length = i := by unfold kdL; rw [List.length_map, List.length_take]; omega
    obtain ⟨hp1, u1, e1, e2, e3⟩ := h.push (base := 0) (y := .sl (.loc 1) [] 0 1 (some 1) 10) (new := [.int .i64 (kd (l.getD i 0) 12)]) (.rw (.agg 38 [])) [.rw (.agg 38 [.int .i64 (kd (l.getD i 0) 12)])] (.inr ⟨_, _, _, _, _, rfl⟩) (elems_whole (t := 38) rfl rfl) (by simp) (by simp [hlen, most]; omega) rfl
    have hQ1 := hQ.chg e3 ha (fun h0 => by have := hg 0 h0; omega)
    have h1 : LSl hp1 (.one hp.length) 10 38 u1 ((kdL l (i + 1)).map (.int .i64)) := .inr (by rw [kdL_succ hil, List.map_append]; exact e2)
    have ha1 : Apart (.one hp.length) (StF3 a fr Fm) := fun j h1 h2 => by cases h1; have := hQ.inn _ h2; omega
    obtain ⟨p1, _⟩ := e3.pre hpre hg
    obtain ⟨hp2, G2, u2, q1, q2, q3, q4⟩ := room_loop1 hz hl hv hlt hw n (i + 1) (by omega) h1 p1 hQ1 hab ha1 (fun j hj => by cases hj; exact hHl)
    refine ⟨hp2, G2, u2, ?_, q2, q3, q4⟩
    have d1 : (i : Int) < l.length := by omega
    have d2 : (i : Int) < 20 := by omega
    have d4 : IntKind.i64.wrap ((i : Int) + 1) = ((i + 1 : Nat) : Int) := i64_id (by omega) (by omega)
    have hgi : (l.map (V.int .i64))[i]? = some (.int .i64 (l.getD i 0)) := get_map (f := V.int .i64) hil 0
    have hv1 : RS ⟨[.rw (.agg 38 [])], hp⟩ 10 v (l.map (.int .i64)) := hv.more ⟨List.nil_prefix, hpre⟩
    have l1 := locLt_mono (v := v) (show 0 ≤ 1 by omega) hlt
    have l2 := locLt_mono (v := w) (show 0 ≤ 1 by omega) hw
    have l3 : V.locLt 1 u1 = true := e2.ltb
    rw [← q1, rc_loop_o]
    generalize kd (l.getD i 0) 12 = kv at *
    generalize l.getD i 0 = li at *
    simp only [go_sem, b_steadfastlaw10_ObjectsRoom_1, hs, d1, d2, hv1.sadq hgi, hv1.ldq hgi, hk, List.replicate]
    simp only [go_sem, e1, d4, l1, l2, l3]
end
end Go.Proofs.YtnffmibpblibdaaDoor
namespace Go.Proofs.YtnffmibpblibdaaDoor
open Go.Ab
section
variable {hp hp' : List Blk} {F G G' Fm : Ft} {a m fr : Nat} {x : AS}
theorem needs_app {x : AS} : ∀ (a b s : List Int), x.needs s (a ++ b) = x.needs s a + x.needs (s ++ a) b
  | [], b, s => by simp [AS.needs]
  | y :: a, b, s => by
    simp only [List.cons_append, AS.needs]
    rw [needs_app a b (s ++ [y])]
    simp only [List.append_assoc, List.cons_append, List.nil_append]
    omega
theorem needs_snoc {x : AS} (a : List Int) (y : Int) : x.needs [] (a ++ [y]) = x.needs [] a + (if gE x.work y = 0 ∧ x.own y.toNat = false ∧ y ∉ a then 1 else 0) := by
  rw [needs_app]; simp [AS.needs]
/-- Where the loop that sets stands. -/
structure Rsg (x1 x : AS) (pre : List Int) (f : Bool) : Prop where
  inv : Inv x
  on : x.M.On
  kind : ∀ i, i < 12 → (x.work i).kind ≠ 0
  none : ∀ i, 12 ≤ i → i < 49 → x.work i = noEnt
  cnt : x.M.count ≤ 8 * pre.length
  yes : f = true → (∀ i, i < 12 → (x.own i = true ↔ (i : Int) ∈ pre)) ∧ x.A.left + x1.needs [] pre = x1.A.left
  no : f = false → x1.A.left < x1.needs [] pre
theorem own_same {x y : AS} (hb : y.base = x.base) (hm : y.mark = x.mark) (hi : y.is = x.is) {j : Nat} (hw : y.work j = x.work j) : y.own j = x.own j := by
  unfold AS.own AS.sh
  rw [hb, hm, hi, hw]
theorem rsg_step {x1 x : AS} {pre : List Int} {id : Nat} (h1 : ∀ i, i < 12 → x1.own i = false) (hk1 : ∀ i, i < 12 → (x1.work i).kind ≠ 0) (hid : id < 12) (h : Rsg x1 x pre true) : Rsg x1 (x.set id 0 1).1 (pre ++ [(id : Int)]) (decide ((x.set id 0 1).2 = 0)) := by
  obtain ⟨y1, y2⟩ := h.yes rfl
  have hcs := AS.set_count (x := x) id 0 1
  have hcnt := h.cnt
  have hn : x1.needs [] (pre ++ [(id : Int)]) = x1.needs [] pre + if (id : Int) ∉ pre then 1 else 0 := by
    rw [needs_snoc]
    have hg : gE x1.work id = 0 := by unfold gE; rw [if_neg (by omega), Int.toNat_natCast, if_neg (hk1 id hid)]
    simp [hg, h1 id hid]
  have hs := set_spec h.inv h.on (show id < 49 by omega) (h.kind id hid) (show 0 < 8 by decide) 1
  rw [show ((0 : Nat) : Int) = 0 from rfl] at hs
  rcases hs with ⟨o1, o2, e⟩ | ⟨y, e, hS⟩
  · rw [e]
    have hnot : (id : Int) ∉ pre := fun hh => by rw [(y1 id hid).2 hh] at o1; cases o1
    refine ⟨h.inv, h.on, h.kind, h.none, by simp only [List.length_append, List.length_cons, List.length_nil]; omega, fun hh => ?_, fun _ => ?_⟩
    · simp at hh
    · rw [hn, if_pos hnot]; omega
  · rw [e] at hcs ⊢
    simp only at hcs
    have hwj : ∀ j, j ≠ id → y.own j = x.own j := fun j hj => own_same hS.base hS.mark hS.is (hS.others j hj)
    refine ⟨hS.inv, hS.on, fun i hi => ?_, fun i h2 h3 => ?_, by simp only [List.length_append, List.length_cons, List.length_nil]; omega, fun _ => ⟨fun i hi => ?_, ?_⟩, fun hh => ?_⟩
    · by_cases e2 : i = id
      · subst e2; rw [hS.kv.1]; exact h.kind i hi
      · rw [hS.others i e2]; exact h.kind i hi
    · rw [hS.others i (by omega)]; exact h.none i h2 h3
    · by_cases e2 : i = id
      · subst e2; simp [hS.own]
      · rw [hwj i e2, y1 i hi]
        have : ¬ (i : Int) = id := by omega
        simp [this]
    · rw [hn]
      by_cases ho : x.own id = true
      · rw [if_neg (fun hh => hh ((y1 id hid).1 ho)), (hS.same ho).1]; exact y2
      · have ho' : x.own id = false := by simpa using ho
        rw [if_pos (fun hh => ho ((y1 id hid).2 hh))]
        have := hS.left ho'
        simp only
        omega
    · simp at hh
theorem rsg_stay {x1 x : AS} {pre : List Int} {id : Int} (h : Rsg x1 x pre false) : Rsg x1 x (pre ++ [id]) false :=
  ⟨h.inv, h.on, h.kind, h.none, by have := h.cnt; simp only [List.length_append, List.length_cons, List.length_nil]; omega, fun hh => (by cases hh), fun _ => by have := h.no rfl; rw [needs_snoc]; omega⟩
theorem room_loop2 {x1 : AS} (h1 : ∀ i, i < 12 → x1.own i = false) (hk1 : ∀ i, i < 12 → (x1.work i).kind ≠ 0) {u : V} {ids : List Int} (hids : ∀ y ∈ ids, 0 ≤ y ∧ y < 12) (hl : ids.length ≤ 20) (k room : V) (hk : k.locLt 0 = true) (hr : room.locLt 0 = true) :
    ∀ (r pre : List Int) {hp : List Blk} {Fm G : Ft} {x : AS} {f : Bool}, ids = pre ++ r → StoQ hp Fm a m fr x → LSl hp G 10 38 u (ids.map (.int .i64)) → Apart G (StF3 a fr Fm) → Inn hp G → Rsg x1 x pre f →
    ∃ hp' Fm' x' f', rc D 0 (.loop [10, 12, 14, 15, 16, 17] b_steadfastlaw10_ObjectsRoom_2) [(10, .ptr (.hp a) [] 43), (12, u), (14, k), (15, room), (16, .bool f), (17, .int .i64 pre.length)] ⟨[.rw (.agg 38 [])], hp⟩ =
      some (.exit 4, [(10, .ptr (.hp a) [] 43), (12, u), (14, k), (15, room), (16, .bool f'), (17, .int .i64 ids.length), (79, .bool false)], ⟨[.rw (.agg 38 [])], hp'⟩) ∧ StoQ hp' Fm' a m fr x' ∧ Rsg x1 x' ids f'
  | [], pre, hp, Fm, G, x, f, hi, h, hu, _, _, hR => by
    rw [List.append_nil] at hi
    subst hi
    refine ⟨hp, Fm, x, f, ?_, h, hR⟩
    have hs := (hu.rs (.rw (.agg 38 [])) []).slen
    rw [List.length_map] at hs
    have d1 : ¬ (ids.length : Int) < ids.length := by omega
    rw [rc_loop_o]
    simp only [go_sem, b_steadfastlaw10_ObjectsRoom_2, hs, d1]
  | id :: r, pre, hp, Fm, G, x, f, hi, h, hu, ha, hin, hR => by
    have hlen : ids.length = pre.length + (r.length + 1) := by rw [hi]; simp
    have hi' : ids = (pre ++ [id]) ++ r := by rw [hi]; simp
    have hid := hids id (by rw [hi]; simp)
    obtain ⟨i, rfl⟩ : ∃ i : Nat, id = i := ⟨id.toNat, by omega⟩
    have hrs := hu.rs (.rw (.agg 38 [])) []
    have hs := hrs.slen
    rw [List.length_map] at hs
    have d1 : (pre.length : Int) < ids.length := by omega
    have d4 : IntKind.i64.wrap ((pre.length : Int) + 1) = ((pre ++ [(i : Int)]).length : Nat) := by rw [i64_id (by omega) (by omega)]; simp
    have hg : (ids.map (V.int .i64))[pre.length]? = some (.int .i64 i) := by rw [hi]; simp
    have l0 : V.locLt 1 u = true := by have := hrs.locLt; simpa using this
    have l1 := locLt_mono (v := k) (show 0 ≤ 1 by omega) hk
    have l2 := locLt_mono (v := room) (show 0 ≤ 1 by omega) hr
    have hcnt := hR.cnt
    cases f
    · obtain ⟨hp2, Fm2, x2, f2, q1, q2, q3⟩ := room_loop2 h1 hk1 hids hl k room hk hr r (pre ++ [(i : Int)]) hi' h hu ha hin (rsg_stay hR)
      refine ⟨hp2, Fm2, x2, f2, ?_, q2, q3⟩
      rw [← q1, rc_loop_o]
      simp only [go_sem, b_steadfastlaw10_ObjectsRoom_2, hs, d1, d4, l0, l1, l2]
    · obtain ⟨hp1, Fm1, e1, e2, e3⟩ := rf_sp_Set h (by omega) i 0 1 [.rw (.agg 38 [])]
      have hR1 := rsg_step h1 hk1 (show i < 12 by omega) hR
      have hu1 := hu.eqv (e3.eqv ha.symm hin)
      obtain ⟨hp2, Fm2, x2, f2, q1, q2, q3⟩ := room_loop2 h1 hk1 hids hl k room hk hr r (pre ++ [(i : Int)]) hi' e2 hu1 (e3.apart ha.symm hin).symm (hin.more e3) hR1
      refine ⟨hp2, Fm2, x2, f2, ?_, q2, q3⟩
      rw [← q1, rc_loop_o]
      generalize (x.set i 0 1).2 = er at *
      simp only [go_sem, b_steadfastlaw10_ObjectsRoom_2, hs, d1, hrs.sadq hg, hrs.ldq hg, e1, d4, l0, l1, l2]
/-- Where the loop that makes stands. -/
structure Rmk (x1 : AS) (ids : List Int) (x : AS) (j : Nat) (f : Bool) : Prop where
  inv : Inv x
  on : x.M.On
  none : ∃ c, c ≤ j ∧ ∀ i, 12 + c ≤ i → i < 49 → x.work i = noEnt
  cnt : x.M.count ≤ 8 * (20 + j)
  yes : f = true → x.A.left + x1.needs [] ids + j = x1.A.left
  no : f = false → x1.A.left < x1.needs [] ids + j
theorem rmk_step {x1 x : AS} {ids : List Int} {j : Nat} {f : Bool} (hj : j < 9) (h : Rmk x1 ids x j f) : Rmk x1 ids (x.make 1).1 (j + 1) (f && decide ((x.make 1).2.2 = 0)) := by
  obtain ⟨c, hc, hn⟩ := h.none
  obtain ⟨n, hn1, hn2⟩ := nxt_ex (t := x.work) (i := 12 + c) (by omega) (by rw [hn _ (Nat.le_refl _) (by omega)]; rfl)
  have hcnt := h.cnt
  have hcs := AS.make_count (x := x) 1
  rcases make_spec h.inv h.on (k := 1) (.inl rfl) hn1 with ⟨z, e⟩ | ⟨y, q, e, hM⟩
  · rw [e]
    refine ⟨h.inv, h.on, ⟨c, by omega, hn⟩, by simp only; omega, fun hh => by simp at hh, fun _ => ?_⟩
    cases f
    · have := h.no rfl; omega
    · have := h.yes rfl; omega
  · rw [e] at hcs ⊢
    simp only at hcs
    have hleft := hM.left
    refine ⟨hM.inv, hM.on, ⟨c + 1, by omega, fun i h1 h2 => ?_⟩, by simp only; omega, fun hh => ?_, fun hh => ?_⟩
    · rw [hM.work, updE_ne (by omega)]; exact hn i (by omega) h2
    · have := h.yes (by simpa using hh); simp only; omega
    · have := h.no (by simpa using hh); omega
theorem room_loop3 {x1 : AS} {ids : List Int} {kk : Nat} (hkk : kk ≤ 9) (room : Bool) : ∀ (n j : Nat) {hp : List Blk} {Fm : Ft} {x : AS} {f : Bool}, j + n = kk → StoQ hp Fm a m fr x → Rmk x1 ids x j f →
    ∃ hp' Fm' x' f', rc D 0 (.loop [10, 14, 15, 16, 18] b_steadfastlaw10_ObjectsRoom_3) [(10, .ptr (.hp a) [] 43), (14, .int .i64 kk), (15, .bool room), (16, .bool f), (18, .int .i64 j)] ⟨[.rw (.agg 38 [])], hp⟩ =
      some (.exit 6, [(10, .ptr (.hp a) [] 43), (14, .int .i64 kk), (15, .bool room), (16, .bool f'), (18, .int .i64 kk), (94, .bool false)], ⟨[.rw (.agg 38 [])], hp'⟩) ∧ StoQ hp' Fm' a m fr x' ∧ Rmk x1 ids x' kk f'
  | 0, j, hp, Fm, x, f, hj, h, hR => by
    have : j = kk := by omega
    subst this
    refine ⟨hp, Fm, x, f, ?_, h, hR⟩
    have d1 : ¬ (j : Int) < j := by omega
    rw [rc_loop_o]
    simp only [go_sem, b_steadfastlaw10_ObjectsRoom_3, d1]
  | n + 1, j, hp, Fm, x, f, hj, h, hR => by
    have d1 : (j : Int) < kk := by omega
    have d4 : IntKind.i64.wrap ((j : Int) + 1) = ((j + 1 : Nat) : Int) := i64_id (by omega) (by omega)
    have hcnt := hR.cnt
    obtain ⟨hp1, Fm1, e1, e2, e3⟩ := rf_sp_Make h (by omega) 1 [.rw (.agg 38 [])]
    have hR1 := rmk_step (by omega) hR
    obtain ⟨hp2, Fm2, x2, f2, q1, q2, q3⟩ := room_loop3 hkk room n (j + 1) (by omega) e2 hR1
    refine ⟨hp2, Fm2, x2, f2, ?_, q2, q3⟩
    rw [← q1, rc_loop_o]
    generalize (x.make 1).2.2 = er at *
    generalize (x.make 1).2.1 = ed at *
    cases f
    · simp only [go_sem, b_steadfastlaw10_ObjectsRoom_3, d1, e1, d4]
    · simp only [go_sem, b_steadfastlaw10_ObjectsRoom_3, d1, e1, d4]
end
end Go.Proofs.YtnffmibpblibdaaDoor
namespace Go.Proofs.YtnffmibpblibdaaDoor
open Go.Ab
theorem LSl.inn {hp : List Blk} {G : Ft} {e r : Nat} {v : V} {l : List V} (h : LSl hp G e r v l) : LSl hp (fun j => G j ∧ j < hp.length) e r v l := by
  rcases h with h | h
  · exact .inl h
  · refine .inr ?_
    cases h with
    | nil => exact .nil
    | emp a p o => exact .emp a p o
    | blk a c l hc hg hb => exact .blk a c _ hc ⟨hg, lt_of_get hb⟩ hb
theorem law_ObjectsRoom : ∀ hp vs, G <+: hp → Sh.FitsL hp [(.int .i64), (.sl 38 (.int .i64)), (.int .i64)] vs → ∃ s', rf D f_steadfastlaw10_ObjectsRoom vs ⟨[], hp⟩ = some (.bool true, s') := by
  intro hp vs hpre hf
  obtain ⟨v0, v, v2, rfl, h0, hv, h2⟩ := fits3 hf
  obtain ⟨ln, rfl, ln0, ln1⟩ := i_of h0
  obtain ⟨mo, rfl, mo0, mo1⟩ := i_of h2
  obtain ⟨l0, hrs, hlt, hlen, hfit⟩ := rs_of_fits hv
  obtain ⟨l, rfl, hl⟩ := map_of (f := V.int .i64) (fun x hx => i_of (hfit x hx))
  have hG := glob_of hpre
  obtain ⟨more, hsh⟩ := rf_shown10 (s := ⟨[], hp⟩) hG
  have hG1 : (hp ++ more)[0]? = some (.ro globV_0) := by rw [List.getElem?_append_left (lt_of_get hG)]; exact hG
  have hrs1 : RS ⟨[], hp ++ more⟩ 10 v (l.map (.int .i64)) := hrs.more ⟨List.prefix_rfl, List.prefix_append _ _⟩
  simp only at hsh
  generalize hp ++ more = H at *
  have hkl := rf_kind10 ln 64 ln0 ln1 (by decide)
  have hkm := rf_kind10 mo 10 mo0 mo1 (by decide)
  obtain ⟨k0, k1⟩ := kd_range ln (n := 64) (by decide)
  obtain ⟨m0, m1⟩ := kd_range mo (n := 10) (by decide)
  generalize kd ln 64 = kl at *
  generalize kd mo 10 = km at *
  obtain ⟨n, rfl⟩ : ∃ n : Nat, kl = n := ⟨kl.toNat, by omega⟩
  obtain ⟨kk, rfl⟩ : ∃ n : Nat, km = n := ⟨km.toNat, by omega⟩
  have w1 : IntKind.i64.wrap (64 + (n : Int)) = ((64 + n : Nat) : Int) := i64_id (by omega) (by omega)
  obtain ⟨hp1, hp2, a, A', Fm, fr, e1, hG2, e2, hQ, hI, two, hown, hf1, hf2, hst, p1, p2⟩ := made10 [] [] hG1 (c := 12) (n := 64 + n) (by decide) (by omega) (by omega)
  have htab := fun s => rf_table10 12 (by decide) s
  rw [show ((12 : Nat) : Int) = 12 from rfl] at htab
  have hdir := rf_dir10 (s := ⟨[], hp1⟩) hG2
  generalize hx0 : as0 (am0 (64 + n) fun _ => zl) A' (tbl10 12) dir10 = x0 at *
  obtain ⟨hp3, A3, q1, q2, q3, q4⟩ := room_loop0 (v := v) (w := .int .i64 mo) ln0 ln1 hlt rfl x0.A.left (Nat.le_refl _) hQ hI
  obtain ⟨p3, p4⟩ := q4.pre p1 p2
  have hz := lt_of_get hG1
  obtain ⟨hp4, G4, u, r1, r2, r3, r4⟩ := room_loop1 hz hl hrs1 hlt (w := .int .i64 mo) rfl (min l.length 20) 0 (by omega) (G := fun _ => False) (u := .sl (.loc 0) [] 0 0 (some 0) 10) (.inl ⟨rfl, rfl⟩) p3 q2 p4 (fun _ h => h.elim) (fun _ h => h.elim)
  generalize hids : kdL l (min l.length 20) = ids at *
  have hidl : ids.length ≤ 20 := by rw [← hids]; unfold kdL; rw [List.length_map, List.length_take]; omega
  have hidm : ∀ y ∈ ids, 0 ≤ y ∧ y < 12 := fun y hy => by
    rw [← hids] at hy
    unfold kdL at hy
    obtain ⟨z, _, rfl⟩ := List.mem_map.1 hy
    exact kd_range z (by decide)
  have hroom := rf_sp_Room r3 kk [.rw (.agg 38 [])] (r2.rs _ _) (by omega)
  have hx1own : ∀ i, i < 12 → AS.own { x0 with A := A3 } i = false := hown
  have hx1kind : ∀ i, i < 12 → ((AS.work { x0 with A := A3 }) i).kind ≠ 0 := fun i hi => by rw [← hx0]; exact tbl10_kind.2 hi
  generalize hx1 : ({ x0 with A := A3 } : AS) = x1 at *
  have hR : Rsg x1 x1 [] true := by
    refine ⟨q3, by rw [← hx1, ← hx0]; exact am0_on _ _, hx1kind, fun i h1 _ => ?_, by rw [← hx1, ← hx0]; simp [as0, am0], fun _ => ⟨fun i hi => by simp [hx1own i hi], by simp [AS.needs]⟩, fun h => by cases h⟩
    rw [← hx1, ← hx0]
    show tbl10 12 i = noEnt
    unfold tbl10; rw [if_neg (by omega)]
  have r2' := r2.inn
  obtain ⟨hp5, Fm5, x5, f5, s1, s2, s3⟩ := room_loop2 hx1own hx1kind hidm hidl (.int .i64 kk) (.bool (x1.room ids kk)) rfl rfl ids [] rfl r3 r2' (fun j h1 h2 => r4 j h1.1 h2) (fun j h => h.2) hR
  have hR5 : Rmk x1 ids x5 0 f5 := ⟨s3.inv, s3.on, ⟨0, Nat.le_refl _, fun i h1 h2 => s3.none i (by omega) h2⟩, by have := s3.cnt; omega, fun h => (s3.yes h).2, fun h => by have := s3.no h; omega⟩
  obtain ⟨hp6, Fm6, x6, f6, t1, t2, t3⟩ := room_loop3 (kk := kk) (by omega) (x1.room ids kk) kk 0 (by omega) s2 hR5
  have hfin : x1.room ids kk = f6 := by
    unfold AS.room
    have e0 : decide ((0 : Int) ≤ kk) = true := decide_eq_true (by omega)
    rw [e0, Bool.true_and]
    cases f6
    · have := t3.no rfl
      exact decide_eq_false (by omega)
    · have := t3.yes rfl
      exact decide_eq_true (by omega)
  refine ⟨⟨[], hp6⟩, ?_⟩
  rw [show ((0 : Nat) : Int) = 0 from rfl] at r1 t1
  rw [List.length_nil, show ((0 : Nat) : Int) = 0 from rfl] at s1
  rw [hfin] at hroom s1 t1
  have q1' : rc D 0 (.loop [0, 1, 2, 10] b_steadfastlaw10_ObjectsRoom_0) [(0, .int .i64 ln), (1, v), (2, .int .i64 mo), (10, .ptr (.hp a) [] 43), (43, .bool false)] ⟨[], hp2⟩ = _ := (rc_loop_restrict (keep := [0, 1, 2, 10]) (ρ := [(0, .int .i64 ln), (1, v), (2, .int .i64 mo), (10, .ptr (.hp a) [] 43), (43, .bool false)])).symm.trans q1
  clear hI hQ hfit hst two hR s3 t3 hR5
  simp only [tabV, Ent.v] at *
  generalize 64 + n = nn at *
  rw [rf_o D_steadfastlaw10_ObjectsRoom rfl]
  simp only [go_sem, hsh, hkl, w1, e1]
  simp only [go_sem, htab, hdir, e2, q1', List.replicate_zero]
  simp only [go_sem, r1, hkm, hroom, s1, t1]
end Go.Proofs.YtnffmibpblibdaaDoor
