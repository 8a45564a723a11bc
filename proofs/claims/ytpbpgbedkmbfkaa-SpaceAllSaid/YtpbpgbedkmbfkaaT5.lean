/-
  YtpbpgbedkmbfkaaT5: what functions of the program compute (SpcD, SpcE, SpcF).
-/
import Derived.Test.YtpbpgbedkmbfkaaT4
import Derived.Test.YtpbpgbedkmbfkaaT1
set_option maxRecDepth 100000
namespace Go.Proofs.Ytpbpgbedkmbfkaa
open Go.Ab

theorem band15 (r : Int) (h0 : -9223372036854775808 ≤ r) (h1 : r ≤ 9223372036854775807) : 0 ≤ iand .i64 r 15 ∧ iand .i64 r 15 ≤ 15 := by
  have e : iand .i64 r 15 = ((BitVec.ofInt 64 r &&& 15#64).toNat : Int) := by
    rw [iand_i64]
    have hl : (BitVec.ofInt 64 r &&& 15#64).toNat ≤ 15 := by
      rw [BitVec.toNat_and]; exact Nat.and_le_right
    show (BitVec.ofInt 64 r &&& 15#64).toInt = _
    rw [BitVec.toInt_eq_toNat_of_lt (by omega)]
  rw [e]
  have hl : (BitVec.ofInt 64 r &&& 15#64).toNat ≤ 15 := by
    rw [BitVec.toNat_and]; exact Nat.and_le_right
  omega
theorem band16 (r : Int) : 0 ≤ iand .i64 r 65535 ∧ iand .i64 r 65535 ≤ 65535 := by
  have hl : (BitVec.ofInt 64 r &&& 65535#64).toNat ≤ 65535 := by
    rw [BitVec.toNat_and]; exact Nat.and_le_right
  have e : iand .i64 r 65535 = ((BitVec.ofInt 64 r &&& 65535#64).toNat : Int) := by
    rw [iand_i64]
    show (BitVec.ofInt 64 r &&& 65535#64).toInt = _
    rw [BitVec.toInt_eq_toNat_of_lt (by omega)]
  rw [e]
  omega
/-- 15 keeps what is below 16. -/
theorem keep15 {r : Int} (h0 : 0 ≤ r) (h1 : r ≤ 15) : iand .i64 15 r = r := by
  obtain ⟨n, rfl⟩ : ∃ n : Nat, r = n := ⟨r.toNat, by omega⟩
  have : (15 : Int) = ((15 : Nat) : Int) := rfl
  rw [this, iand_i64_nat (by omega) (by omega), Nat.and_comm, show (15 : Nat) = 2 ^ 4 - 1 by rfl, Nat.and_two_pow_sub_one_eq_mod]
  omega
theorem capOf_word {c : Cap} (h : c.Ok) : capOf c.word = c := by
  have h1 := h.k; have h2 := h.r; have h3 := h.i; have h4 := h.v; have h5 := h.b
  obtain ⟨k, r, i, v, b⟩ := c
  simp only at h1 h2 h3 h4 h5
  simp only [capOf, Cap.word, Cap.mk.injEq]
  omega
theorem capsOf_word {c : Cap} (h : c.Ok) : capsOf c.word = c := by
  unfold capsOf
  rw [capOf_word h, if_pos ((may_iff c).2 h)]
theorem word_range {c : Cap} (h : c.Ok) : 0 ≤ c.word ∧ c.word ≤ 18446744073709551615 := by
  have h1 := h.k; have h2 := h.r; have h3 := h.i; have h4 := h.v; have h5 := h.b
  unfold Cap.word
  omega
def pageC (r v b : Int) : Cap := ⟨1, r, 0, v, b⟩
theorem page_ok {r v b : Int} (hr : 0 ≤ r ∧ r ≤ 15) (hv : 0 ≤ v ∧ v ≤ 16777215) (hb : 0 ≤ b ∧ b ≤ 65535) : (pageC r v b).Ok := by
  refine ⟨?_, hr, ?_, hv, hb, ?_⟩ <;> simp only [pageC] <;> omega
theorem absm_id {v : Int} (h0 : 0 ≤ v) (h1 : v < 100) : absm v 100 = v := by
  unfold absm
  rw [Int.tmod_eq_emod_of_nonneg h0]
  rw [if_neg (by omega)]
  omega
theorem page_find {r v b : Int} (hr : 0 ≤ r ∧ r ≤ 15) (hv : 0 ≤ v ∧ v < 100) (hb : 0 ≤ b ∧ b ≤ 65535) (l : List Int) (n : Nat) :
    findF (entM 100 [⟨1, v, l⟩]) (lnM [⟨1, v, l⟩]) (pageC r v b).word n = if 8 ≤ n then ⟨40, 0, 0⟩ else ⟨0, 0, r⟩ := by
  have hok := page_ok hr (v := v) (by omega) hb
  have hc := capsOf_word hok
  have hh : heightOf (pageC r v b).word = 0 := by unfold heightOf; rw [hc]; rfl
  have hnm : nmE (entM 100 [⟨1, v, l⟩]) (pageC r v b).word = 0 := by
    unfold nmE
    rw [hc]
    show entryNames (absm 1 5) (absm v 100) 0 (pageC r v b).word = 0
    unfold entryNames
    rw [hc, capOf_word hok, (may_iff _).2 hok, absm_id hv.1 hv.2]
    simp [pageC, absm]
  unfold findF
  rw [hh]
  simp only [Int.toNat_zero, Nat.pow_zero, Nat.mul_one, Int.lt_irrefl, false_or]
  by_cases h : 8 ≤ n
  · rw [if_pos h, if_pos h]
  · rw [if_neg h, if_neg h]
    simp only [findR]
    rw [hh, hnm, hc]
    have : nmId (entM 100 [⟨1, v, l⟩]) (pageC r v b).word = 0 := by unfold nmId; rw [hnm, hc]; rfl
    rw [this]
    simp only [pageC, ne_eq, not_true_eq_false, if_false, keep15 hr.1 hr.2]
theorem law_SpacePages : ∀ hp vs, Sh.FitsL hp [(.arr 24 8 (.int .u64)), (.st 40 [(.int .i64), (.int .i64), (.int .i64), (.int .i64), (.int .i64)]), (.int .u64)] vs → ∃ s', rf D f_steadfastlaw15_SpacePages vs ⟨[], hp⟩ = some (.bool true, s') := by
  intro hp vs hf
  obtain ⟨v, y, z, rfl, h1, h2, ⟨n, rfl, hn0, hn1⟩⟩ := fits3 hf
  have hn0' : (0 : Int) ≤ n := hn0
  have hn1' : n ≤ 18446744073709551615 := hn1
  obtain ⟨n, rfl⟩ : ∃ k : Nat, n = k := ⟨n.toNat, by omega⟩
  obtain ⟨ws, rfl, hwn, hwl⟩ := h1
  obtain ⟨l, rfl, hl⟩ := map_of (f := V.int .u64) (P := fun x => 0 ≤ x ∧ x ≤ 18446744073709551615) (fun x hx => by
    obtain ⟨n, rfl, h1, h2⟩ := hwl x hx
    exact ⟨n, rfl, h1, h2⟩)
  obtain ⟨cs, rfl, hcs⟩ := h2
  obtain ⟨_, _, rfl, ⟨k0, rfl, _, _⟩, hcs1⟩ := fitsC hcs
  obtain ⟨_, _, rfl, ⟨r0, rfl, hr0, hr1⟩, hcs2⟩ := fitsC hcs1
  obtain ⟨_, _, rfl, ⟨i0, rfl, _, _⟩, hcs3⟩ := fitsC hcs2
  obtain ⟨_, _, rfl, ⟨v0, rfl, _, _⟩, hcs4⟩ := fitsC hcs3
  obtain ⟨_, rfl, ⟨b0, rfl, _, _⟩⟩ := fits1 hcs4
  have hr := band15 r0 hr0 hr1
  have hb := band16 b0
  have hv := absm_le v0 (m := 100) (by omega)
  have q1 := neg_tmod v0 (m := 100) (by omega) (by omega)
  obtain ⟨more, hsh⟩ := rf_shown15 ⟨[.rw (lnV l), .rw (.agg 40 [.int .i64 k0, .int .i64 r0, .int .i64 i0, .int .i64 v0, .int .i64 b0])], hp⟩
  have hvv : (if v0.tmod 100 < 0 then -v0.tmod 100 else v0.tmod 100) = absm v0 100 := rfl
  have hok := page_ok hr (v := absm v0 100) (by omega) hb
  have hcw := fun s => rf_caps_Word (pageC (iand .i64 r0 15) (absm v0 100) (iand .i64 b0 65535)) s
  have hpf := page_find hr hv hb l n
  have hwr := word_range hok
  rw [show capWord (pageC (iand .i64 r0 15) (absm v0 100) (iand .i64 b0 65535)) = (pageC (iand .i64 r0 15) (absm v0 100) (iand .i64 b0 65535)).word from if_pos ((may_iff _).2 hok), show capE (pageC (iand .i64 r0 15) (absm v0 100) (iand .i64 b0 65535)) = 0 from if_pos ((may_iff _).2 hok)] at hcw
  generalize hw : (pageC (iand .i64 r0 15) (absm v0 100) (iand .i64 b0 65535)).word = w at *
  simp only [pageC, Cap.v] at hcw
  have hoo : ∀ o ∈ [Obj.mk 1 (absm v0 100) l], OkO o := fun o ho => by
    rw [List.mem_singleton] at ho
    subst ho
    exact ⟨by simpa using hwn, hl⟩
  have hL := okL_of hoo
  have hrs : RS ⟨[.rw (lnV l), .rw (.agg 40 [.int .i64 k0, .int .i64 r0, .int .i64 i0, .int .i64 v0, .int .i64 b0]), .rw (.agg 28 ([Obj.mk 1 (absm v0 100) l].map Obj.v))], hp ++ more⟩ 26 (.sl (.loc 2) [] 0 1 (some 1) 26) ([Obj.mk 1 (absm v0 100) l].map Obj.v) :=
    RS.at_loc (L := [.rw (lnV l), .rw (.agg 40 [.int .i64 k0, .int .i64 r0, .int .i64 i0, .int .i64 v0, .int .i64 b0]), .rw (.agg 28 ([Obj.mk 1 (absm v0 100) l].map Obj.v))]) (i := 2) (r := 28) (n := 1) (cp := some 1) rfl rfl (fun c hc => by cases hc; exact Nat.le_refl _)
  obtain ⟨w', S, X, _, _, _, _, hm⟩ := rf_made15 hrs
  have ht : ∀ i, i < 49 → (entM 100 [Obj.mk 1 (absm v0 100) l] i).kind ≠ 0 → (entM 100 [Obj.mk 1 (absm v0 100) l] i).line = 20 + i := fun i _ hk => entM_line hk
  have hP := prgM (H := hp ++ more) (ls := lnM [Obj.mk 1 (absm v0 100) l]) (w := w') (S := S) (X := X) ht
  have f1 := fun L => rf_Find (s := ⟨L, (hp ++ more) ++ madeH (hp ++ more).length (entM 100 [Obj.mk 1 (absm v0 100) l]) (lnM [Obj.mk 1 (absm v0 100) l]) w' S X⟩) hP hL n (by omega) w hwr.1 hwr.2
  simp only [hpf] at f1
  simp only at hsh hm
  generalize hp ++ more = H at *
  generalize madeH H.length (entM 100 [Obj.mk 1 (absm v0 100) l]) (lnM [Obj.mk 1 (absm v0 100) l]) w' S X = mh at *
  refine ⟨⟨[], H ++ mh⟩, ?_⟩
  simp only [List.map_cons, List.map_nil, Obj.v, lnV] at *
  generalize er : iand .i64 r0 15 = r at *
  generalize eb : iand .i64 b0 65535 = b at *
  have e4 : IntKind.i64.wrap (n : Int) = n ∨ 8 ≤ n := by
    by_cases h : 8 ≤ n
    · exact .inr h
    · exact .inl (i64_id (by omega) (by omega))
  rw [rf_o D_steadfastlaw15_SpacePages rfl]
  simp only [go_sem, hsh, q1]
  simp only [hvv]
  generalize absm v0 100 = vv at *
  simp only [go_sem, List.replicate]
  simp only [go_sem, hm]
  simp only [go_sem, er, eb, hcw]
  by_cases h : 8 ≤ n
  · simp only [h, if_true, FR.v, plV, show ¬ ((40 : Int) = 0) by decide, if_false] at f1
    have h8 : (8 : Int) ≤ n := by omega
    simp only [go_sem, f1, h8]
  · simp only [h, if_false, FR.v, plV, if_true] at f1
    have h8 : ¬ (8 : Int) ≤ n := by omega
    have e5 := e4.resolve_right h
    have e6 : n % 8 = n := by omega
    rw [e6] at f1
    simp only [go_sem, f1, h8, e5, er]
end Go.Proofs.Ytpbpgbedkmbfkaa
namespace Go.Proofs.Ytpbpgbedkmbfkaa
open Go.Ab

theorem ofInt_iand (a b : Int) : BitVec.ofInt 64 (iand .i64 a b) = BitVec.ofInt 64 a &&& BitVec.ofInt 64 b := by
  rw [iand_i64, BitVec.ofInt_toInt]
theorem iand_assoc (a b c : Int) : iand .i64 (iand .i64 a b) c = iand .i64 a (iand .i64 b c) := by
  rw [iand_i64 (iand .i64 a b), iand_i64 a (iand .i64 b c), ofInt_iand, ofInt_iand, BitVec.and_assoc]
theorem iand_right_comm (a b c : Int) : iand .i64 (iand .i64 a b) c = iand .i64 (iand .i64 a c) b := by
  rw [iand_assoc, iand_comm .i64 b c, ← iand_assoc]
def FR.less (x : FR) (q : Int) : FR := if x.e = 0 then ⟨0, x.id, iand .i64 x.r q⟩ else x
theorem findR_less (t : Nat → Ent) (ls : Nat → List Int) (n : Nat) : ∀ (h : Nat) (c r q : Int), findR t ls n h c (iand .i64 r q) = (findR t ls n h c r).less q
  | 0, c, r, q => by
    simp only [findR]
    by_cases g1 : heightOf c = 0
    · simp only [g1, ne_eq, not_true_eq_false, if_false]
      by_cases g2 : nmE t c = 0
      · simp only [g2, ne_eq, not_true_eq_false, if_false]
        simp only [FR.less, if_true, iand_right_comm]
      · simp only [g2, FR.less, ne_eq, not_false_eq_true, if_true, if_false]
    · simp only [g1, ne_eq, not_false_eq_true, if_true]; rfl
  | h + 1, c, r, q => by
    simp only [findR]
    by_cases g1 : heightOf c = h + 1
    · simp only [g1, ne_eq, not_true_eq_false, if_false]
      by_cases g2 : nmE t c = 0
      · simp only [g2, ne_eq, not_true_eq_false, if_false]
        by_cases g3 : gE t (nmId t c) = 0
        · simp only [g3, ne_eq, not_true_eq_false, if_false]
          rw [iand_right_comm]
          exact findR_less t ls n h _ _ q
        · simp only [g3, FR.less, ne_eq, not_false_eq_true, if_true, if_false]
      · simp only [g2, FR.less, ne_eq, not_false_eq_true, if_true, if_false]
    · simp only [g1, ne_eq, not_false_eq_true, if_true]; rfl
/-- Only the lower parts of an address matter. -/
theorem findR_low (t : Nat → Ent) (ls : Nat → List Int) (n m : Nat) : ∀ (h : Nat) (c r : Int), (∀ k, 1 ≤ k → k ≤ h → n / 2 ^ (3 * k) % 8 = m / 2 ^ (3 * k) % 8) → findR t ls n h c r = findR t ls m h c r
  | 0, c, r, _ => rfl
  | h + 1, c, r, hk => by
    simp only [findR]
    have e : ∀ id, slotOf ls t id n (h + 1) = slotOf ls t id m (h + 1) := fun id => by unfold slotOf; rw [hk (h + 1) (by omega) (by omega)]
    rw [e, findR_low t ls n m h _ _ fun k h1 h2 => hk k h1 (by omega)]
theorem nm_get {t : Nat → Ent} {c : Int} (h : nmE t c = 0) : gE t (nmId t c) = 0 := by
  have hid := capsOf_id c
  unfold nmId
  rw [if_pos h]
  unfold gE
  rw [if_neg (by omega)]
  by_cases hk : (t (capsOf c).id.toNat).kind = 0
  · exfalso
    unfold nmE entryNames at h
    split at h
    · cases h
    · rw [if_neg (by simp)] at h
      split at h
      · cases h
      · simp [hk] at h
  · rw [if_neg hk]
theorem low_mod (n h k : Nat) (hk : k + 1 ≤ h) : n % 2 ^ (3 * h) / 2 ^ (3 * k) % 8 = n / 2 ^ (3 * k) % 8 := by
  obtain ⟨d, rfl⟩ := Nat.exists_eq_add_of_le hk
  have e : 2 ^ (3 * (k + 1 + d)) = 2 ^ (3 * k) * (8 * 8 ^ d) := by
    rw [show 3 * (k + 1 + d) = 3 * k + (3 + 3 * d) by omega, Nat.pow_add, Nat.pow_add, Nat.pow_mul 2 3 d]
  rw [e, Nat.mod_mul_right_div_self, Nat.mod_mul_right_mod]
theorem less_same {t : Nat → Ent} {ls : Nat → List Int} {c q : Int} (n : Nat) (hd : dimE c q 0 = 0) : findF t ls (dimW c q 0) n = (findF t ls c n).less q := by
  have hm : (capOf c).may = true := by
    cases h : (capOf c).may
    · unfold dimE at hd; rw [if_pos h] at hd; cases hd
    · rfl
  have hmt : ¬ (capOf c).may = false := by rw [hm]; simp
  have hmay : (dimC c q 0).may = true := by
    unfold dimE at hd
    rw [if_neg hmt] at hd
    split at hd
    · cases hd
    · unfold capE at hd
      split at hd
      · assumption
      · cases hd
  have hw : dimW c q 0 = (dimC c q 0).word := by
    unfold dimE at hd
    unfold dimW
    rw [if_neg hmt] at hd ⊢
    split at hd
    · cases hd
    · rename_i hg
      rw [if_neg hg]
      unfold capWord; rw [if_pos hmay]
  have hok := (may_iff _).1 hmay
  have hco := capsOf_word hok
  have hcm : (capOf (dimC c q 0).word).may = true := by rw [capOf_word hok]; exact hmay
  rw [hw]
  have hb : (if (capsOf c).badge = 0 then 0 else (capsOf c).badge) = (capsOf c).badge := by split <;> omega
  have hh : heightOf (dimC c q 0).word = heightOf c := by
    unfold heightOf
    rw [hco]
    simp only [dimC, hb]
  have hn : nmE t (dimC c q 0).word = nmE t c := by
    unfold nmE entryNames
    rw [hco, hcm, hm]
    rfl
  have hi : nmId t (dimC c q 0).word = nmId t c := by
    unfold nmId
    rw [hn, hco]
    simp only [dimC]
  have hr : ∀ h, findR t ls n h (dimC c q 0).word 15 = (findR t ls n h c 15).less q := by
    intro h
    cases h with
    | zero =>
      simp only [findR, hh, hn, hi, hco]
      by_cases g1 : heightOf c = 0
      · simp only [g1, ne_eq, not_true_eq_false, if_false]
        by_cases g2 : nmE t c = 0
        · simp only [g2, ne_eq, not_true_eq_false, if_false]
          simp only [FR.less, if_true, dimC, iand_assoc]
        · simp only [g2, FR.less, ne_eq, not_false_eq_true, if_true, if_false]
      · simp only [g1, ne_eq, not_false_eq_true, if_true]; rfl
    | succ h =>
      simp only [findR, hh, hn, hi, hco]
      by_cases g1 : heightOf c = h + 1
      · simp only [g1, ne_eq, not_true_eq_false, if_false]
        by_cases g2 : nmE t c = 0
        · simp only [g2, nm_get g2, ne_eq, not_true_eq_false, if_false]
          simp only [dimC]
          rw [← iand_assoc]
          exact findR_less t ls n h _ _ q
        · simp only [g2, FR.less, ne_eq, not_false_eq_true, if_true, if_false]
      · simp only [g1, ne_eq, not_false_eq_true, if_true]; rfl
  unfold findF
  rw [hh]
  split
  · rfl
  · exact hr _
end Go.Proofs.Ytpbpgbedkmbfkaa
namespace Go.Proofs.Ytpbpgbedkmbfkaa
open Go.Ab

theorem objV_at {o : Obj} {q : Nat} (h : o.l.length = 8) (hq : q < 8) : (o.l.map (V.int .u64))[q]? = some (.int .u64 (o.l.getD q 0)) := get_map (by omega) 0
theorem findR_no {t : Nat → Ent} {ls : Nat → List Int} {n h : Nat} {c r : Int} (g : heightOf c ≠ h) : findR t ls n h c r = ⟨40, 0, 0⟩ := by
  cases h with
  | zero => simp only [findR]; rw [if_pos (by simpa using g)]
  | succ h => simp only [findR]; rw [if_pos (by simpa using g)]
theorem law_SpaceDown : ∀ hp vs, Sh.FitsL hp [(.sl 28 (.st 26 [(.int .i64), (.int .i64), (.arr 24 8 (.int .u64))])), (.int .u64), (.int .u64)] vs → ∃ s', rf D f_steadfastlaw15_SpaceDown vs ⟨[], hp⟩ = some (.bool true, s') := by
  intro hp vs hf
  obtain ⟨v, y, z, rfl, h1, ⟨c, rfl, hc0, hc1⟩, ⟨n, rfl, hn0, hn1⟩⟩ := fits3 hf
  have hc0' : (0 : Int) ≤ c := hc0
  have hc1' : c ≤ 18446744073709551615 := hc1
  have hn0' : (0 : Int) ≤ n := hn0
  have hn1' : n ≤ 18446744073709551615 := hn1
  obtain ⟨n, rfl⟩ : ∃ k : Nat, n = k := ⟨n.toNat, by omega⟩
  obtain ⟨lo, hrs, hlo⟩ := open_objs h1
  obtain ⟨more, hsh⟩ := rf_shown15 ⟨[], hp⟩
  obtain ⟨w, S, X, _, _, _, _, hm⟩ := rf_made15 (hrs [] more)
  have ht : ∀ i, i < 49 → (entM 100 lo i).kind ≠ 0 → (entM 100 lo i).line = 20 + i := fun i _ hk => entM_line hk
  have hP := prgM (H := hp ++ more) (ls := lnM lo) (w := w) (S := S) (X := X) ht
  have hL := okL_of hlo
  have hh := fun s => rf_Height c hc0' hc1' s
  have hco := fun s => rf_caps_Of c hc0' hc1' s
  have f1 := fun L => rf_Find (s := ⟨L, (hp ++ more) ++ madeH (hp ++ more).length (entM 100 lo) (lnM lo) w S X⟩) hP hL n (by omega) c hc0' hc1'
  have f2 := fun L x hx0 hx1 k hk => rf_Find (s := ⟨L, (hp ++ more) ++ madeH (hp ++ more).length (entM 100 lo) (lnM lo) w S X⟩) hP hL k hk x hx0 hx1
  have f3 := fun L => rf_Names (s := ⟨L, (hp ++ more) ++ madeH (hp ++ more).length (entM 100 lo) (lnM lo) w S X⟩) hP.st c hc0' hc1'
  have f4 := fun L => rf_Get (s := ⟨L, (hp ++ more) ++ madeH (hp ++ more).length (entM 100 lo) (lnM lo) w S X⟩) hP (nmId (entM 100 lo) c)
  have hgo := gO_ok (t := entM 100 lo) hL (nmId (entM 100 lo) c)
  simp only at hsh hm f1 f2 f3 f4
  generalize hp ++ more = H at *
  generalize madeH H.length (entM 100 lo) (lnM lo) w S X = mh at *
  generalize entM 100 lo = t at *
  generalize lnM lo = ls at *
  refine ⟨⟨[], H ++ mh⟩, ?_⟩
  have hle := height_le c
  rw [rf_o D_steadfastlaw15_SpaceDown rfl]
  by_cases g1 : heightOf c < 1
  · generalize heightOf c = hc at *
    simp only [go_sem, hsh, hm, hh, g1]
  · obtain ⟨h, eh⟩ : ∃ h : Nat, heightOf c = (h + 1 : Nat) := ⟨(heightOf c).toNat - 1, by omega⟩
    have hh2 : h ≤ 1 := by omega
    rw [eh] at hh g1
    have e1 : IntKind.i64.wrap (3 * ((h + 1 : Nat) : Int)) = ((3 * (h + 1) : Nat) : Int) := by rw [i64_id (by omega) (by omega)]; omega
    have e2 : ishl .u64 8 ((3 * (h + 1) : Nat) : Int) = ((8 * 8 ^ (h + 1) : Nat) : Int) := by
      rw [ishl_two 8 (3 * (h + 1)) (by omega)]
      have : h = 0 ∨ h = 1 := by omega
      rcases this with rfl | rfl <;> rfl
    have e2' : ishl .u64 1 ((3 * (h + 1) : Nat) : Int) = ((2 ^ (3 * (h + 1)) : Nat) : Int) := by
      rw [ishl_two 1 (3 * (h + 1)) (by omega)]
      have : h = 0 ∨ h = 1 := by omega
      rcases this with rfl | rfl <;> rfl
    have e8 : ¬ ((3 * (h + 1) : Nat) : Int) < 0 := by omega
    have e4 : IntKind.i64.wrap (((h + 1 : Nat) : Int) - 1) = h := by rw [i64_id (by omega) (by omega)]; omega
    by_cases g2 : 8 * 8 ^ (h + 1) ≤ n
    · have g3 : ((8 * 8 ^ (h + 1) : Nat) : Int) ≤ n := by omega
      generalize 8 * 8 ^ (h + 1) = q2 at *
      generalize 3 * (h + 1) = q3 at *
      generalize h + 1 = h' at *
      simp only [go_sem, hsh, hm, hh, g1, e1, e2, e8, g3]
    · have g3 : ¬ ((8 * 8 ^ (h + 1) : Nat) : Int) ≤ n := by omega
      have hF : findF t ls c n = findR t ls n (h + 1) c 15 := by
        unfold findF
        rw [eh, Int.toNat_natCast, if_neg (by omega)]
      rw [hF] at f1
      simp only [findR] at f1
      have eh' : heightOf c = (h : Int) + 1 := by omega
      simp only [eh', ne_eq, not_true_eq_false, if_false] at f1
      by_cases g4 : nmE t c = 0
      · have g5 := nm_get g4
        simp only [g4, g5, ne_eq, not_true_eq_false, if_false] at f1 f3 f4
        have e9 : ishr .u64 (n : Int) ((3 * (h + 1) : Nat) : Int) = ((n / 2 ^ (3 * (h + 1)) : Nat) : Int) := by
          rw [ishr_two (n : Int) (3 * (h + 1)) (by omega), Int.natCast_ediv, Int.natCast_pow]; rfl
        have hpow : 2 ^ (3 * (h + 1)) = 8 ^ (h + 1) := by rw [Nat.pow_mul]
        have hq8 : n / 2 ^ (3 * (h + 1)) < 8 := by
          rw [hpow]
          exact Nat.div_lt_of_lt_mul (by omega)
        have hqm : n / 2 ^ (3 * (h + 1)) % 8 = n / 2 ^ (3 * (h + 1)) := Nat.mod_eq_of_lt hq8
        have e10 : (n : Int).tmod ((2 ^ (3 * (h + 1)) : Nat) : Int) = ((n % 2 ^ (3 * (h + 1)) : Nat) : Int) := by rw [← Int.ofNat_tmod]
        have hpos : ¬ ((2 ^ (3 * (h + 1)) : Nat) : Int) = 0 := by
          have := Nat.two_pow_pos (3 * (h + 1))
          omega
        have hsl := slot_ok (t := t) hL (nmId t c) n (h + 1)
        have hsh1 := fun s => rf_Height (slotOf ls t (nmId t c) n (h + 1)) hsl.1 hsl.2 s
        have hqg := objV_at hgo.1 hq8
        have f5 := fun L => f2 L (slotOf ls t (nmId t c) n (h + 1)) hsl.1 hsl.2 (n % 2 ^ (3 * (h + 1))) (Nat.lt_of_le_of_lt (Nat.mod_le _ _) (by omega))
        have hw8 : n % 2 ^ (3 * (h + 1)) % 8 = n % 8 := by
          have := low_mod n (h + 1) 0 (by omega)
          simpa using this
        have hX : heightOf (slotOf ls t (nmId t c) n (h + 1)) = h → findF t ls (slotOf ls t (nmId t c) n (h + 1)) (n % 2 ^ (3 * (h + 1))) = findR t ls n h (slotOf ls t (nmId t c) n (h + 1)) 15 := by
          intro hx
          unfold findF
          rw [hx, Int.toNat_natCast]
          have : n % 2 ^ (3 * (h + 1)) < 8 * 8 ^ h := by
            rw [hpow, Nat.pow_succ, Nat.mul_comm 8]
            exact Nat.mod_lt _ (by have := Nat.pow_pos (n := h) (show 0 < 8 by decide); omega)
          rw [if_neg (by omega)]
          exact findR_low t ls _ _ h _ _ fun k h1 h2 => low_mod n (h + 1) k (by omega)
        have hlessR := findR_less t ls n h (slotOf ls t (nmId t c) n (h + 1)) 15 (capsOf c).rights
        rw [hlessR] at f1
        by_cases g6 : heightOf (slotOf ls t (nmId t c) n (h + 1)) = h
        · rw [hX g6] at f5
          rw [g6] at hsh1
          simp only [FR.v, FR.less, hw8] at f1 f5
          simp only [slotOf, hqm] at *
          generalize findR t ls n h ((gO t ls (nmId t c)).l.getD (n / 2 ^ (3 * (h + 1))) 0) 15 = fr at *
          generalize nmId t c = id at *
          generalize gO t ls id = o at *
          generalize n % 2 ^ (3 * (h + 1)) = q5 at *
          generalize n / 2 ^ (3 * (h + 1)) = q4 at *
          generalize 2 ^ (3 * (h + 1)) = q6 at *
          generalize 8 * 8 ^ (h + 1) = q2 at *
          generalize 3 * (h + 1) = q3 at *
          generalize n % 8 = q7 at *
          have d1 : (0 : Int) ≤ q4 := by omega
          have d2 : (q4 : Int) < 8 := by omega
          simp only [Obj.v, Cap.v, plV] at *
          generalize h + 1 = h' at *
          by_cases he : fr.e = 0
          · simp only [he, if_true] at f1 f5
            simp only [go_sem, hsh, hm, hh, g1, e1, e2, e8, g3, f1, f3, f4, e9, d1, d2]
            rw [Int.toNat_natCast]
            simp only [go_sem, hqg, hsh1, e4, e1, e2', e8, hpos, e10, f5, hco]
          · simp only [he, if_false] at f1 f5
            simp only [go_sem, hsh, hm, hh, g1, e1, e2, e8, g3, f1, f3, f4, e9, d1, d2]
            rw [Int.toNat_natCast]
            simp only [go_sem, hqg, hsh1, e4, e1, e2', e8, hpos, e10, f5, hco, he]
        · rw [findR_no g6] at f1
          simp only [FR.v, FR.less, show ¬ ((40 : Int) = 0) by decide, if_false] at f1
          simp only [slotOf, hqm] at *
          generalize nmId t c = id at *
          generalize gO t ls id = o at *
          generalize heightOf (o.l.getD (n / 2 ^ (3 * (h + 1))) 0) = hx at *
          generalize n / 2 ^ (3 * (h + 1)) = q4 at *
          generalize 8 * 8 ^ (h + 1) = q2 at *
          generalize 3 * (h + 1) = q3 at *
          have d1 : (0 : Int) ≤ q4 := by omega
          have d2 : (q4 : Int) < 8 := by omega
          simp only [Obj.v, plV] at *
          generalize h + 1 = h' at *
          simp only [go_sem, hsh, hm, hh, g1, e1, e2, e8, g3, f1, f3, f4, e9, d1, d2]
          rw [Int.toNat_natCast]
          simp only [go_sem, hqg, hsh1, e4, g6]
      · simp only [g4, ne_eq, not_false_eq_true, if_true] at f1
        simp only [FR.v, g4, if_false, plV] at f1
        generalize nmE t c = e at *
        generalize nmId t c = id at *
        generalize 8 * 8 ^ (h + 1) = q2 at *
        generalize 3 * (h + 1) = q3 at *
        generalize h + 1 = h' at *
        simp only [go_sem, hsh, hm, hh, g1, e1, e2, e8, g3, f1, f3, g4]
theorem all_loop {H : List Blk} {a b k m k2 n' : Nat} {x : StF} {y : RstF} {sh : Nat → Bool} {T T' T2 : List V} {ls : Nat → List Int} (hP : Prg H a x sh k m T ls) (hD : Doc H b y k2 n' m T' T2 ls) (hxy : y.work = x.work) (hL : OkL ls) (c r : Int) (h0 : 0 ≤ c) (h1 : c ≤ 18446744073709551615) :
    rc D 0 (.loop [1, 2, 8, 9, 10, 11, 12] b_steadfastlaw15_SpaceAll_0) [(1, .int .u64 c), (2, .int .i64 r), (8, .ptr (.hp a) [] 43), (9, .ptr (.hp b) [] 31), (10, .int .u64 (dimW c (iand .i64 r 15) 0)), (11, .int .i64 (dimE c (iand .i64 r 15) 0)), (12, .int .i64 0)] ⟨[], H⟩ =
      some (.exit 0, [(1, .int .u64 c), (2, .int .i64 r), (8, .ptr (.hp a) [] 43), (9, .ptr (.hp b) [] 31), (10, .int .u64 (dimW c (iand .i64 r 15) 0)), (11, .int .i64 (dimE c (iand .i64 r 15) 0)), (12, .int .i64 520), (39, .bool false)], ⟨[], H⟩) := by
  refine loop_runs (fun x : Nat => [(1, .int .u64 c), (2, .int .i64 r), (8, .ptr (.hp a) [] 43), (9, .ptr (.hp b) [] 31), (10, .int .u64 (dimW c (iand .i64 r 15) 0)), (11, .int .i64 (dimE c (iand .i64 r 15) 0)), (12, .int .i64 x)]) (fun _ => ⟨[], H⟩) (fun _ => _) (fun x => 520 - x) (fun x => x ≤ 520) 0 ?_ (Nat.zero_le _) rfl rfl
  intro i hi
  by_cases c1 : i < 520
  · left
    have d1 : (i : Int) < 520 := by omega
    have d4 : IntKind.i64.wrap ((i : Int) + 1) = (i : Int) + 1 := i64_id (by omega) (by omega)
    have d5 : IntKind.u64.wrap (i : Int) = i := u64_id (by omega) (by omega)
    have f1 := fun L => rf_Find (s := ⟨L, H⟩) hP hL i (by omega) c h0 h1
    have f2 := fun L => rf_rFind (s := ⟨L, H⟩) hD hL i (by omega) c h0 h1
    rw [hxy] at f2
    refine ⟨i + 1, by omega, by omega, rfl, ?_⟩
    by_cases hd : dimE c (iand .i64 r 15) 0 = 0
    · have hm : (capOf c).may = true := by
        cases h : (capOf c).may
        · unfold dimE at hd; rw [if_pos h] at hd; cases hd
        · rfl
      have hmay : 0 ≤ dimW c (iand .i64 r 15) 0 ∧ dimW c (iand .i64 r 15) 0 ≤ 18446744073709551615 := by
        unfold dimW
        split
        · omega
        · split
          · omega
          · unfold capWord
            split
            · rename_i h; exact word_range ((may_iff _).1 h)
            · omega
      have f3 := fun L => rf_Find (s := ⟨L, H⟩) hP hL i (by omega) _ hmay.1 hmay.2
      have hls := less_same (t := x.work) (ls := ls) i hd
      rw [hls] at f3
      rw [hd]
      generalize dimW c (iand .i64 r 15) 0 = wd at *
      generalize findF x.work ls c i = fr at *
      have ha : iand .i64 (iand .i64 fr.r r) 15 = iand .i64 fr.r (iand .i64 r 15) := iand_assoc _ _ _
      simp only [FR.v, FR.less, plV] at *
      by_cases he : fr.e = 0
      · simp only [he, if_true] at f1 f2 f3
        simp only [go_sem, b_steadfastlaw15_SpaceAll_0, d1, d5, f1, f2, f3, ha, d4]
        rfl
      · simp only [he, if_false] at f1 f2 f3
        simp only [go_sem, b_steadfastlaw15_SpaceAll_0, d1, d5, f1, f2, f3, d4, he]
        rfl
    · generalize dimE c (iand .i64 r 15) 0 = ed at *
      generalize dimW c (iand .i64 r 15) 0 = wd at *
      generalize findF x.work ls c i = fr at *
      simp only [FR.v, plV] at *
      by_cases he : fr.e = 0
      · simp only [he, if_true] at f1 f2
        simp only [go_sem, b_steadfastlaw15_SpaceAll_0, d1, d5, f1, f2, d4, hd]
        rfl
      · simp only [he, if_false] at f1 f2
        simp only [go_sem, b_steadfastlaw15_SpaceAll_0, d1, d5, f1, f2, d4, hd]
        rfl
  · right
    have : i = 520 := by omega
    subst this
    simp only [go_sem, b_steadfastlaw15_SpaceAll_0]
theorem law_SpaceAll : ∀ hp vs, Sh.FitsL hp [(.sl 28 (.st 26 [(.int .i64), (.int .i64), (.arr 24 8 (.int .u64))])), (.int .u64), (.int .i64)] vs → ∃ s', rf D f_steadfastlaw15_SpaceAll vs ⟨[], hp⟩ = some (.bool true, s') := by
  intro hp vs hf
  obtain ⟨v, y, z, rfl, h1, ⟨c, rfl, hc0, hc1⟩, ⟨r, rfl, hr0, hr1⟩⟩ := fits3 hf
  have hc0' : (0 : Int) ≤ c := hc0
  have hc1' : c ≤ 18446744073709551615 := hc1
  obtain ⟨lo, hrs, hlo⟩ := open_objs h1
  obtain ⟨more, hsh⟩ := rf_shown15 ⟨[], hp⟩
  obtain ⟨w, S, X, _, _, _, _, hm⟩ := rf_made15 (hrs [] more)
  have ht : ∀ i, i < 49 → (entM 100 lo i).kind ≠ 0 → (entM 100 lo i).line = 20 + i := fun i _ hk => entM_line hk
  have hP := prgM (H := hp ++ more) (ls := lnM lo) (w := w) (S := S) (X := X) ht
  have hD := docM (H := hp ++ more) (ls := lnM lo) (w := w) (S := S) (X := X) ht
  have hL := okL_of hlo
  have hdm := fun s => rf_caps_Diminish c (iand .i64 r 15) 0 hc0' hc1' s
  have hl := all_loop hP hD rfl hL c r hc0' hc1'
  simp only at hsh hm hl
  generalize hp ++ more = H at *
  generalize madeH H.length (entM 100 lo) (lnM lo) w S X = mh at *
  generalize dimW c (iand .i64 r 15) 0 = wd at *
  generalize dimE c (iand .i64 r 15) 0 = ed at *
  refine ⟨⟨[], H ++ mh⟩, ?_⟩
  rw [rf_o D_steadfastlaw15_SpaceAll rfl]
  simp only [go_sem, hsh, hm, hdm, hl]
end Go.Proofs.Ytpbpgbedkmbfkaa
