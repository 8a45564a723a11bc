/-
  Ab36: two operations that make something new change places.
-/
import Derived.Test.YtpbpgbedkmbfkaaAb35
namespace Go.Ab.Sw
open Go.Ab
variable {F : Swp}

def newK : Op' → Option Bool
  | .alloc h _ | .box h _ | .bsl h .. | .mksl h .. => some h
  | _ => none
def newY : Op' → Option Bool
  | .alloc h _ | .box h _ | .bsl h .. | .mksl h .. | .app h .. => some h
  | _ => none
def kill : Option Loc → St → St
  | none, s => s
  | some a, s => s.set a .dead
theorem fresh_kill (d : Option Loc) (s : St) (h : Bool) : (kill d s).fresh h = s.fresh h := by
  cases d with
  | none => rfl
  | some a => cases a <;> cases h <;> simp [kill, St.set, St.fresh]
/-- What is made: where it stands, what a slot is told, what it is. -/
structure Form (base : Nat) (ρ : Env) (o : Op') (h : Bool) (s : St) (v : V) (s' : St) (d : Option Loc) (f : Loc → V) (z : V) : Prop where
  there : ∀ a, d = some a → (s.at a).isSome = true
  veq : v = f (s.fresh h)
  seq : s' = (kill d s).new h z
  more : ∀ h2 z2, evOp base ρ (s.new h2 z2) o = some (f ((s.new h2 z2).fresh h), (kill d (s.new h2 z2)).new h z)
  ren : ∀ (F : Swp) l, F.v (f l) = f (F.a l)
  zeq : o.clos 0 = true → ∀ F : Swp, F.In s → F.s s = s → (∀ t, F.v (get ρ t) = get ρ t) → F.v z = z
theorem newK_form {base : Nat} {ρ : Env} {s s' : St} {v : V} {o : Op'} {h : Bool} (hk : newK o = some h) (he : evOp base ρ s o = some (v, s')) :
    ∃ f z, Form base ρ o h s v s' none f z ∧ ∀ s2, evOp base ρ s2 o = some (f (s2.fresh h), s2.new h z) := by
  cases o with
  | alloc h' z =>
    simp only [newK, Option.some.injEq] at hk
    subst hk
    simp only [evOp, Option.some.injEq, Prod.mk.injEq] at he
    obtain ⟨rfl, rfl⟩ := he
    refine ⟨fun l => .ptr l [] z.tag, z, ⟨(fun _ hd => by cases hd), rfl, rfl, fun _ _ => rfl, fun _ _ => rfl, fun hc F _ _ _ => ?_⟩, fun _ => rfl⟩
    simp only [Op'.clos, zOf, Bool.and_eq_true] at hc
    exact v_flat hc.2
  | box h' x =>
    simp only [newK, Option.some.injEq] at hk
    subst hk
    simp only [evOp] at he
    split at he
    · rename_i hok
      simp only [Option.some.injEq, Prod.mk.injEq] at he
      obtain ⟨rfl, rfl⟩ := he
      have key : ∀ s2 : St, evOp base ρ s2 (.box h' x) = some (.ptr (s2.fresh h') [] (x.ev ρ).tag, s2.new h' (x.ev ρ)) := fun s2 => by simp only [evOp]; rw [if_pos hok]
      refine ⟨fun l => .ptr l [] (x.ev ρ).tag, x.ev ρ, ⟨(fun _ hd => by cases hd), rfl, rfl, fun _ _ => key _, fun _ _ => rfl, fun hc F _ _ hρ => ?_⟩, key⟩
      simp only [Op'.clos, Bool.and_eq_true, List.all_eq_true] at hc
      have := opd_e (F := F) (ρ := ρ) (hc.1 x (by simp [opdsOf]))
      rw [← this, (same_e hρ).ev]
    · cases he
  | bsl h' r e z n ps =>
    simp only [newK, Option.some.injEq] at hk
    subst hk
    simp only [evOp] at he
    split at he
    · rename_i l' hl
      split at he
      · rename_i hm
        simp only [Option.some.injEq, Prod.mk.injEq] at he
        obtain ⟨rfl, rfl⟩ := he
        have key : ∀ s2 : St, evOp base ρ s2 (.bsl h' r e z n ps) = some (.sl (s2.fresh h') [] 0 n (some n) e, s2.new h' (.agg r l')) := fun s2 => by simp only [evOp, hl]; rw [if_pos hm]
        refine ⟨fun l => .sl l [] 0 n (some n) e, .agg r l', ⟨(fun _ hd => by cases hd), rfl, rfl, fun _ _ => key _, fun _ _ => rfl, fun hc F _ _ hρ => ?_⟩, key⟩
        simp only [Op'.clos, zOf, Bool.and_eq_true, List.all_eq_true] at hc
        have := setParts_v (F := F) hl
        rw [List.map_replicate, v_flat hc.2, List.map_map] at this
        have e : (ps.map ((fun p => (p.1, F.v p.2)) ∘ fun p => (p.1, p.2.ev ρ))) = ps.map fun p => (p.1, p.2.ev ρ) := by
          apply List.map_congr_left
          intro p hp
          simp only [Function.comp, Prod.mk.injEq, true_and]
          have := opd_e (F := F) (ρ := ρ) (hc.1 p.2 (by simp only [opdsOf]; exact List.mem_map_of_mem hp))
          rw [← this, (same_e hρ).ev]
        rw [e, hl, Option.some.injEq] at this
        simp only [Swp.v, vs_map, ← this]
      · cases he
    · cases he
  | mksl h' r e z n c =>
    simp only [newK, Option.some.injEq] at hk
    subst hk
    simp only [evOp] at he
    split at he
    · rename_i k a k2 b hn hcp
      split at he
      · rename_i hm
        simp only [Option.some.injEq, Prod.mk.injEq] at he
        obtain ⟨rfl, rfl⟩ := he
        have key : ∀ s2 : St, evOp base ρ s2 (.mksl h' r e z n c) = some (.sl (s2.fresh h') [] 0 a.toNat (some b.toNat) e, s2.new h' (.agg r (List.replicate a.toNat z))) := fun s2 => by simp only [evOp, hn, hcp]; rw [if_pos hm]
        refine ⟨fun l => .sl l [] 0 a.toNat (some b.toNat) e, .agg r (List.replicate a.toNat z), ⟨(fun _ hd => by cases hd), rfl, rfl, fun _ _ => key _, fun _ _ => rfl, fun hc F _ _ _ => ?_⟩, key⟩
        simp only [Op'.clos, zOf, Bool.and_eq_true] at hc
        simp only [Swp.v, vs_map, List.map_replicate, v_flat hc.2]
      · cases he
    · cases he
  | _ => cases hk
theorem elems_new {s : St} {h : Bool} {z v : V} {l : List V} (he : s.elems v = some l) : (s.new h z).elems v = some l := by
  unfold St.elems at he ⊢
  split at he
  · exact he
  · split at he
    · rename_i hl; rw [if_pos hl]; exact he
    · rename_i hl
      rw [if_neg hl]
      split at he
      · rename_i hr; rw [read_new hr]; exact he
      · cases he
  · exact he
  · cases he
theorem at_new {s : St} {h : Bool} {z : V} {a : Loc} {b : Blk} (hb : s.at a = some b) : (s.new h z).at a = some b := by
  cases a with
  | loc i => cases h <;> simp only [St.new, St.at, Bool.false_eq_true, if_false, if_true] at hb ⊢ <;> first | exact hb | (rw [List.getElem?_append_left (List.getElem?_eq_some_iff.1 hb).1]; exact hb)
  | hp i => cases h <;> simp only [St.new, St.at, Bool.false_eq_true, if_false, if_true] at hb ⊢ <;> first | exact hb | (rw [List.getElem?_append_left (List.getElem?_eq_some_iff.1 hb).1]; exact hb)
theorem app_form {base : Nat} {ρ : Env} {s s' : St} {v : V} {h : Bool} {r e : Nat} {x y : Opd} (he : evOp base ρ s (.app h r e x y) = some (v, s')) :
    (s' = s ∧ ∀ h2 z2, evOp base ρ (s.new h2 z2) (.app h r e x y) = some (v, s.new h2 z2)) ∨ ∃ d f z, Form base ρ (.app h r e x y) h s v s' d f z := by
  simp only [evOp] at he
  unfold vappend at he
  split at he
  · rename_i hc
    split at he
    · rename_i old new ho hn
      have zf : (Op'.app h r e x y).clos 0 = true → ∀ F : Swp, F.In s → F.s s = s → (∀ t, F.v (get ρ t) = get ρ t) → F.v (.agg r (old ++ new)) = .agg r (old ++ new) := by
        intro hcl F hI hs hρ
        simp only [Op'.clos, Bool.and_eq_true, List.all_eq_true] at hcl
        have ex := opd_e (F := F) (ρ := ρ) (hcl.1 x (by simp [opdsOf]))
        have ey := opd_e (F := F) (ρ := ρ) (hcl.1 y (by simp [opdsOf]))
        rw [(same_e hρ).ev] at ex ey
        have g1 := elems_s (F := F) hI ho
        have g2 := elems_s (F := F) hI hn
        rw [hs, ← ex, ho, Option.some.injEq] at g1
        rw [hs, ← ey, hn, Option.some.injEq] at g2
        simp only [Swp.v, vs_map, List.map_append, ← g1, ← g2]
      split at he
      · rename_i h0
        simp only [Option.some.injEq, Prod.mk.injEq] at he
        obtain ⟨rfl, rfl⟩ := he
        left
        refine ⟨rfl, fun h2 z2 => ?_⟩
        simp only [evOp]
        unfold vappend
        rw [if_pos hc, elems_new ho, elems_new hn]
        simp only
        rw [if_pos h0]
      · rename_i h0
        split at he
        · rename_i hm
          right
          split at he
          · rename_i hx
            simp only [Option.some.injEq, Prod.mk.injEq] at he
            obtain ⟨rfl, rfl⟩ := he
            refine ⟨none, fun l => .sl l [] 0 (old.length + new.length) none e, .agg r (old ++ new), ⟨(fun _ hd => by cases hd), rfl, rfl, fun h2 z2 => ?_, fun _ _ => rfl, zf⟩⟩
            simp only [evOp]
            unfold vappend
            rw [if_pos hc, elems_new ho, elems_new hn]
            simp only
            rw [if_neg h0, if_pos hm, hx]
            rfl
          · rename_i a path off len cap e' hx
            split at he
            · rename_i hk
              simp only [Option.some.injEq, Prod.mk.injEq] at he
              obtain ⟨rfl, rfl⟩ := he
              refine ⟨none, fun l => .sl l [] 0 (old.length + new.length) none e, .agg r (old ++ new), ⟨(fun _ hd => by cases hd), rfl, rfl, fun h2 z2 => ?_, fun _ _ => rfl, zf⟩⟩
              simp only [evOp]
              unfold vappend
              rw [if_pos hc, elems_new ho, elems_new hn]
              simp only
              rw [if_neg h0, if_pos hm, hx]
              simp only
              rw [if_pos hk]
              rfl
            · rename_i hk
              split at he
              · rename_i hp
                split at he
                · rename_i u ha
                  simp only [Option.some.injEq, Prod.mk.injEq] at he
                  obtain ⟨rfl, rfl⟩ := he
                  refine ⟨some a, fun l => .sl l [] 0 (old.length + new.length) none e, .agg r (old ++ new), ⟨(fun b hd => by cases hd; rw [ha]; rfl), by rw [← fresh_kill (some a) s h]; rfl, rfl, fun h2 z2 => ?_, fun _ _ => rfl, zf⟩⟩
                  simp only [evOp]
                  unfold vappend
                  rw [if_pos hc, elems_new ho, elems_new hn]
                  simp only
                  rw [if_neg h0, if_pos hm, hx]
                  simp only
                  rw [if_neg hk, if_pos hp, at_new ha]
                  simp only
                  rw [← fresh_kill (some a) (s.new h2 z2) h]
                  rfl
                · cases he
              · cases he
          · cases he
        · cases he
    · cases he
  · cases he
end Go.Ab.Sw
