/-
  FramesM: the frames and the document's row, side by side.
-/
import Derived.Test.YtfdaihhnlohckaaDoorF12
set_option maxRecDepth 100000
namespace Go.Proofs.YtfdaihhnlohckaaDoor
open Go.Ab

/-- Both, in one heap. -/
structure Pl (hp : List Blk) (a b c : Nat) (f l : Int) (wf wl : List Nat) (S : List Int) : Prop where
  fa : hp[a]? = some (.rw (frV f l wf wl))
  rb : hp[b]? = some (.rw (rfV f c S.length))
  sb : hp[c]? = some (.rw (.agg 38 (S.map (.int .i64))))
  f0 : 0 ≤ f
  fl : f ≤ l
  l1 : l ≤ 1024
  len : (S.length : Int) = l - f
  okf : OkS wf
  okl : OkS wl
  inf : ∀ j : Nat, j < 1024 → bit wf j = true → f ≤ j ∧ (j : Int) < l
  inl : ∀ j : Nat, j < 1024 → bit wl j = true → f ≤ j ∧ (j : Int) < l
  apart : ∀ j : Nat, j < 1024 → bit wf j = true → bit wl j = false
  eq : ∀ k : Nat, k < S.length → S.getD k 0 = if bit wf (f.toNat + k) then 0 else if bit wl (f.toNat + k) then 2 else 1
theorem Pl.fr {hp : List Blk} {a b c : Nat} {f l : Int} {wf wl : List Nat} {S : List Int} (h : Pl hp a b c f l wf wl S) {L : List Blk} : Fr ⟨L, hp⟩ a f l wf wl := ⟨h.fa, h.f0, h.l1, h.okf, h.okl⟩
theorem Pl.rr {hp : List Blk} {a b c : Nat} {f l : Int} {wf wl : List Nat} {S : List Int} (h : Pl hp a b c f l wf wl S) {L : List Blk} : Rf ⟨L, hp⟩ b c f S := ⟨h.rb, h.sb, h.f0, by have := h.len; have := h.l1; omega⟩
theorem Pl.same {hp : List Blk} {a b c : Nat} {f l : Int} {wf wl : List Nat} {S : List Int} (h : Pl hp a b c f l wf wl S) (line : Int) : stS f S line = stOf f l wf wl line := by
  have hl := h.len
  have h0 := h.f0
  unfold stS stOf
  by_cases c1 : line < f
  · rw [if_pos (.inl c1), if_pos (.inl c1)]
  · by_cases c2 : l ≤ line
    · rw [if_pos (.inr (by omega)), if_pos (.inr c2)]
    · rw [if_neg (by omega), if_neg (by omega), h.eq _ (by omega)]
      have : f.toNat + (line - f).toNat = line.toNat := by omega
      rw [this]
theorem Pl.ab {hp : List Blk} {a b c : Nat} {f l : Int} {wf wl : List Nat} {S : List Int} (h : Pl hp a b c f l wf wl S) : a ≠ b ∧ a ≠ c ∧ b ≠ c := by
  refine ⟨fun e => ?_, fun e => ?_, fun e => ?_⟩ <;> subst e
  · have := h.fa.symm.trans h.rb; simp [frV, rfV] at this
  · have := h.fa.symm.trans h.sb; simp [frV] at this
  · have := h.rb.symm.trans h.sb; simp [rfV] at this
theorem nb_out (w : List Nat) (n : Nat) (h : ∀ j, j < n → bit w j = false) : nb w n = 0 := by
  induction n with
  | zero => rfl
  | succ n ih =>
    simp only [nb]
    rw [ih (fun j hj => h j (by omega)), h n (by omega)]; rfl
theorem nb_in {w : List Nat} {S : List Int} {a : Nat} (h : ∀ k, k < S.length → (S.getD k 0 = 0 ↔ bit w (a + k) = true)) (hlow : ∀ j, j < a → bit w j = false) : ∀ k, k ≤ S.length → nb w (a + k) = nz S k
  | 0, _ => nb_out w a hlow
  | k + 1, hk => by
    rw [← Nat.add_assoc]
    simp only [nb, nz]
    rw [nb_in h hlow k (by omega)]
    have := h k (by omega)
    by_cases hb : bit w (a + k) = true
    · rw [if_pos hb, if_pos (this.2 hb)]
    · rw [if_neg hb, if_neg (fun h => hb (this.1 h))]
theorem nb_up {w : List Nat} {n : Nat} (h : ∀ j, n ≤ j → j < 1024 → bit w j = false) : ∀ m, n + m ≤ 1024 → nb w (n + m) = nb w n
  | 0, _ => rfl
  | m + 1, hm => by
    rw [← Nat.add_assoc]
    simp only [nb]
    rw [nb_up h m (by omega), h (n + m) (by omega) (by omega)]; rfl
theorem Pl.left {hp : List Blk} {a b c : Nat} {f l : Int} {wf wl : List Nat} {S : List Int} (h : Pl hp a b c f l wf wl S) : nb wf 1024 = nz S S.length := by
  have hl := h.len
  have h0 := h.f0
  have h1 := h.l1
  have hfl := h.fl
  have e1 := nb_up (w := wf) (n := f.toNat + S.length) (fun j g1 g2 => by
    cases hb : bit wf j
    · rfl
    · have := h.inf j g2 hb; omega) (1024 - (f.toNat + S.length)) (by omega)
  rw [show f.toNat + S.length + (1024 - (f.toNat + S.length)) = 1024 by omega] at e1
  rw [e1]
  refine nb_in (fun k hk => ?_) (fun j hj => ?_) _ (Nat.le_refl _)
  · rw [h.eq k hk]
    cases bit wf (f.toNat + k)
    · cases bit wl (f.toNat + k) <;> simp
    · simp
  · cases hb : bit wf j
    · rfl
    · have := h.inf j (by omega) hb; omega
theorem Pl.upd {hp : List Blk} {a b c : Nat} {f l : Int} {wf wl : List Nat} {S : List Int} (h : Pl hp a b c f l wf wl S) {wf' wl' : List Nat} {S' : List Int} (hlen : S'.length = S.length) (hokf : OkS wf') (hokl : OkS wl')
    (hinf : ∀ j : Nat, j < 1024 → bit wf' j = true → f ≤ j ∧ (j : Int) < l) (hinl : ∀ j : Nat, j < 1024 → bit wl' j = true → f ≤ j ∧ (j : Int) < l) (hap : ∀ j : Nat, j < 1024 → bit wf' j = true → bit wl' j = false)
    (heq : ∀ k : Nat, k < S.length → S'.getD k 0 = if bit wf' (f.toNat + k) then 0 else if bit wl' (f.toNat + k) then 2 else 1) :
    Pl ((hp.set a (.rw (frV f l wf' wl'))).set c (.rw (.agg 38 (S'.map (.int .i64))))) a b c f l wf' wl' S' := by
  obtain ⟨h1, h2, h3⟩ := h.ab
  have ha := (List.getElem?_eq_some_iff.1 h.fa).1
  have hc := (List.getElem?_eq_some_iff.1 h.sb).1
  refine ⟨?_, ?_, ?_, h.f0, h.fl, h.l1, by rw [hlen]; exact h.len, hokf, hokl, hinf, hinl, hap, fun k hk => heq k (by omega)⟩
  · rw [List.getElem?_set_ne (Ne.symm h2), List.getElem?_set_self ha]
  · rw [List.getElem?_set_ne (Ne.symm h3), List.getElem?_set_ne h1, hlen]; exact h.rb
  · rw [List.getElem?_set_self (by simpa using hc)]
/-- A line's bit turned, its state set. -/
theorem Pl.take {hp : List Blk} {a b c : Nat} {f l : Int} {wf wl : List Nat} {S : List Int} (h : Pl hp a b c f l wf wl S) {n k : Nat} (hn : n = f.toNat + k) (hk : k < S.length) (hb : bit wf n = true) :
    Pl ((hp.set a (.rw (frV f l (flip wf n) wl))).set c (.rw (.agg 38 ((S.set k 1).map (.int .i64))))) a b c f l (flip wf n) wl (S.set k 1) := by
  have h0 := h.f0
  have hl := h.len
  have h1 := h.l1
  have hn2 : n < 1024 := by omega
  have hwl := h.apart n hn2 hb
  refine h.upd (by simp) (h.okf.flip hn2) h.okl (fun j hj g => ?_) h.inl (fun j hj g => ?_) (fun j hj => ?_)
  · rw [bit_flip h.okf hn2] at g
    by_cases e : n = j
    · subst e; exact h.inf n hn2 hb
    · simp only [e, decide_false, Bool.xor_false] at g; exact h.inf j hj g
  · rw [bit_flip h.okf hn2] at g
    by_cases e : n = j
    · subst e; exact hwl
    · simp only [e, decide_false, Bool.xor_false] at g; exact h.apart j hj g
  · rw [getD_setI hk, bit_flip h.okf hn2]
    by_cases e : k = j
    · subst e; rw [← hn, hb, hwl]; simp
    · have : ¬ n = f.toNat + j := by omega
      rw [if_neg e, h.eq j hj]; simp [this]
theorem Pl.free {hp : List Blk} {a b c : Nat} {f l : Int} {wf wl : List Nat} {S : List Int} (h : Pl hp a b c f l wf wl S) {n k : Nat} (hn : n = f.toNat + k) (hk : k < S.length) (hb : bit wf n = false) (hwl : bit wl n = false) :
    Pl ((hp.set a (.rw (frV f l (flip wf n) wl))).set c (.rw (.agg 38 ((S.set k 0).map (.int .i64))))) a b c f l (flip wf n) wl (S.set k 0) := by
  have h0 := h.f0
  have hl := h.len
  have h1 := h.l1
  have hn2 : n < 1024 := by omega
  refine h.upd (by simp) (h.okf.flip hn2) h.okl (fun j hj g => ?_) h.inl (fun j hj g => ?_) (fun j hj => ?_)
  · rw [bit_flip h.okf hn2] at g
    by_cases e : n = j
    · subst e; omega
    · simp only [e, decide_false, Bool.xor_false] at g; exact h.inf j hj g
  · rw [bit_flip h.okf hn2] at g
    by_cases e : n = j
    · subst e; exact hwl
    · simp only [e, decide_false, Bool.xor_false] at g; exact h.apart j hj g
  · rw [getD_setI hk, bit_flip h.okf hn2]
    by_cases e : k = j
    · subst e; rw [← hn, hb]; simp
    · have : ¬ n = f.toNat + j := by omega
      rw [if_neg e, h.eq j hj]; simp [this]
theorem Pl.later {hp : List Blk} {a b c : Nat} {f l : Int} {wf wl : List Nat} {S : List Int} (h : Pl hp a b c f l wf wl S) {n k : Nat} (hn : n = f.toNat + k) (hk : k < S.length) (hb : bit wf n = false) (hwl : bit wl n = false) :
    Pl ((hp.set a (.rw (frV f l wf (flip wl n)))).set c (.rw (.agg 38 ((S.set k 2).map (.int .i64))))) a b c f l wf (flip wl n) (S.set k 2) := by
  have h0 := h.f0
  have hl := h.len
  have h1 := h.l1
  have hn2 : n < 1024 := by omega
  refine h.upd (by simp) h.okf (h.okl.flip hn2) h.inf (fun j hj g => ?_) (fun j hj g => ?_) (fun j hj => ?_)
  · rw [bit_flip h.okl hn2] at g
    by_cases e : n = j
    · subst e; omega
    · simp only [e, decide_false, Bool.xor_false] at g; exact h.inl j hj g
  · rw [bit_flip h.okl hn2]
    by_cases e : n = j
    · subst e; rw [hb] at g; cases g
    · simp only [e, decide_false, Bool.xor_false]; exact h.apart j hj g
  · rw [getD_setI hk, bit_flip h.okl hn2]
    by_cases e : k = j
    · subst e; rw [← hn, hb, hwl]; simp
    · have : ¬ n = f.toNat + j := by omega
      rw [if_neg e, h.eq j hj]; simp [this]
theorem Pl.settle {hp : List Blk} {a b c : Nat} {f l : Int} {wf wl : List Nat} {S : List Int} (h : Pl hp a b c f l wf wl S) {w : List Nat} (hokw : OkS w) (hbw : ∀ j, j < 1024 → bit w j = (bit wf j || bit wl j)) {S' : List Int} (hS : S'.length = S.length)
    (hj : ∀ j, j < S.length → S'.getD j 0 = if S.getD j 0 = 2 then 0 else S.getD j 0) :
    Pl ((hp.set a (.rw (frV f l w (w16 [])))).set c (.rw (.agg 38 (S'.map (.int .i64))))) a b c f l w (w16 []) S' := by
  have h0 := h.f0
  have hl := h.len
  have h1 := h.l1
  refine h.upd hS hokw ok_nil (fun j hj g => ?_) (fun j hj g => by rw [bit_nil] at g; cases g) (fun j hj g => bit_nil j) (fun j hj' => ?_)
  · rw [hbw j hj, Bool.or_eq_true] at g
    rcases g with g | g
    · exact h.inf j hj g
    · exact h.inl j hj g
  · rw [hj j hj', h.eq j hj', hbw _ (by omega), bit_nil]
    cases bit wf (f.toNat + j) <;> cases bit wl (f.toNat + j) <;> simp
end Go.Proofs.YtfdaihhnlohckaaDoor
