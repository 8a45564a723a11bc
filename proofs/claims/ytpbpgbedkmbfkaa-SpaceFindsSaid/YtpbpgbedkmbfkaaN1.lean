/-
  NvmA: memory of lines: made of lines, and loaded; the document's, too.
-/
import Derived.Test.YtpbpgbedkmbfkaaC2
import Derived.Test.YtpbpgbedkmbfkaaAb32
set_option maxRecDepth 100000
namespace Go.Proofs.Ytpbpgbedkmbfkaa
open Go.Ab

def lnV (l : List Int) : V := .agg 24 (l.map (.int .u64))
def zl : List Int := List.replicate 8 0
def zfl : V := .agg 50 (List.replicate 8 (.int .i64 0))
def nlV (now sure since fl : V) : V := .agg 55 [now, sure, since, fl]
def zln : V := .agg 24 (List.replicate 8 (.int .u64 0))
theorem zl_v : lnV zl = zln := rfl
def memV (k n : Nat) (off burns : Bool) (left steps : Int) : V := .agg 59 [.sl (.hp k) [] 0 n (some n) 55, .bool off, .bool burns, .int .i64 left, .int .i64 steps]
theorem rf_nvm_New {n : Nat} (h0 : 64 ≤ n) (h1 : n ≤ 1024) (s : St) : rf D f_nvm_New [.int .i64 n] s =
    some (.tup [.ptr (.hp (s.hp.length + 1)) [] 59, .int .i64 0], ⟨s.loc, s.hp ++ [.rw (.agg 57 (tab n fun _ => nlV zln zln .nils zfl)), .rw (memV s.hp.length n false false 0 0)]⟩) := by
  have c1 : ¬ (n : Int) < 64 := by omega
  have c2 : ¬ 1024 < (n : Int) := by omega
  have c3 : (0 : Int) ≤ n := by omega
  have c4 : ¬ (n : Int) < 0 := by omega
  have c5 : (n : Int) ≤ 4611686018427387904 := by omega
  have hm : (n : Int) ≤ (most : Nat) := by unfold most; omega
  rw [rf_o D_nvm_New rfl, ← tab_rep]
  simp only [nlV, zln, zfl, memV]
  simp only [go_sem, c1, c2, c3, hm, Int.le_refl, Int.toNat_natCast]
theorem rf_nvm_Of {n a : Nat} {ls : Nat → List Int} (h0 : 64 ≤ n) (h1 : n ≤ 1024) (s : St) (hs : s.loc[a]? = some (.rw (.agg 58 (tab n fun i => lnV (ls i))))) : rf D f_nvm_Of [.sl (.loc a) [] 0 n (some n) 24] s =
    some (.tup [.ptr (.hp (s.hp.length + 1)) [] 59, .int .i64 0], ⟨s.loc, s.hp ++ [.rw (.agg 57 (tab n fun i => nlV (lnV (ls i)) (lnV (ls i)) .nils zfl)), .rw (memV s.hp.length n false false 0 0)]⟩) := by
  have hal := (List.getElem?_eq_some_iff.1 hs).1
  have hnew := rf_nvm_New h0 h1
  have loop : rc D s.loc.length (.loop [4, 17, 18, 19] b_nvm_Of_0) [(4, .ptr (.hp (s.hp.length + 1)) [] 59), (17, .sl (.loc a) [] 0 n (some n) 24), (18, .int .i64 n), (19, .int .i64 0)]
      ⟨s.loc, s.hp ++ [.rw (.agg 57 (tab n fun _ => nlV zln zln .nils zfl)), .rw (memV s.hp.length n false false 0 0)]⟩ =
      some (.exit 0, [(4, .ptr (.hp (s.hp.length + 1)) [] 59), (17, .sl (.loc a) [] 0 n (some n) 24), (18, .int .i64 n), (19, .int .i64 n), (20, .bool false)],
        ⟨s.loc, s.hp ++ [.rw (.agg 57 (tab n fun i => nlV (lnV (ls i)) (lnV (ls i)) .nils zfl)), .rw (memV s.hp.length n false false 0 0)]⟩) := by
    refine loop_runs (fun x : Nat => [(4, .ptr (.hp (s.hp.length + 1)) [] 59), (17, .sl (.loc a) [] 0 n (some n) 24), (18, .int .i64 n), (19, .int .i64 x)])
      (fun x => ⟨s.loc, s.hp ++ [.rw (.agg 57 (tab n fun i => if i < x then nlV (lnV (ls i)) (lnV (ls i)) .nils zfl else nlV zln zln .nils zfl)), .rw (memV s.hp.length n false false 0 0)]⟩) (fun _ => _) (fun x => n - x) (fun x => x ≤ n) 0 ?_ (by omega) rfl (by simp)
    intro i hi
    by_cases c1 : i < n
    · left
      have d1 : (i : Int) < n := by omega
      have d2 : (0 : Int) ≤ i := by omega
      have d4 : IntKind.i64.wrap ((i : Int) + 1) = (i : Int) + 1 := i64_id (by omega) (by omega)
      have g1 := tab_get (f := fun i => lnV (ls i)) c1
      have g2 := tab_get (f := fun j => if j < i then nlV (lnV (ls j)) (lnV (ls j)) .nils zfl else nlV zln zln .nils zfl) c1
      simp only [Nat.lt_irrefl, if_false] at g2
      have hset : tab n (upd (fun j => if j < i then nlV (lnV (ls j)) (lnV (ls j)) .nils zfl else nlV zln zln .nils zfl) i (nlV (lnV (ls i)) (lnV (ls i)) .nils zfl)) = tab n fun j => if j < i + 1 then nlV (lnV (ls j)) (lnV (ls j)) .nils zfl else nlV zln zln .nils zfl := by
        apply tab_congr
        intro j _
        by_cases e : j = i
        · subst e; simp [upd]
        · rw [upd_ne e]
          by_cases h2 : j < i
          · rw [if_pos h2, if_pos (by omega)]
          · rw [if_neg h2, if_neg (by omega)]
      refine ⟨i + 1, by omega, by omega, rfl, ?_⟩
      rw [← hset, ← tab_set]
      have hT : ∀ v, ((tab n fun j => if j < i then nlV (lnV (ls j)) (lnV (ls j)) .nils zfl else nlV zln zln .nils zfl).set i v)[i]? = some v := fun v => List.getElem?_set_self (by rw [tab_len]; exact c1)
      generalize tab n (fun j => if j < i then nlV (lnV (ls j)) (lnV (ls j)) .nils zfl else nlV zln zln .nils zfl) = T at *
      generalize tab n (fun i => lnV (ls i)) = T2 at *
      simp only [lnV, nlV, zln, zfl, memV] at *
      have q1 := sad_all (a := .loc a) (e := 24) c1
      have q2 := sad_all (a := .hp s.hp.length) (e := 55) c1
      simp only [go_sem, b_nvm_Of_0, d1, d4, q1, q2, hs, g1, g2, hT, hal, List.set_set]
      rfl
    · right
      have : i = n := by omega
      subst this
      have d1 : ¬ (i : Int) < i := by omega
      rw [show (tab i fun j => if j < i then nlV (lnV (ls j)) (lnV (ls j)) .nils zfl else nlV zln zln .nils zfl) = tab i fun j => nlV (lnV (ls j)) (lnV (ls j)) .nils zfl from tab_congr fun j hj => if_pos hj]
      simp only [go_sem, b_nvm_Of_0, d1]
  rw [rf_o D_nvm_Of rfl]
  simp only [go_sem, hnew, loop]
theorem rf_nvm_Lines {n k m : Nat} {off burns : Bool} {left steps : Int} (s : St) (hs : s.hp[m]? = some (.rw (memV k n off burns left steps))) : rf D f_nvm_Memory_Lines [.ptr (.hp m) [] 59] s = some (.int .i64 n, s) := by
  rw [rf_o D_nvm_Memory_Lines rfl]
  simp only [memV] at hs
  simp only [go_sem, hs]
theorem rf_nvm_at {n k m : Nat} {off burns : Bool} {left steps : Int} (s : St) (hs : s.hp[m]? = some (.rw (memV k n off burns left steps))) (i : Int) : rf D f_nvm_Memory_at [.ptr (.hp m) [] 59, .int .i64 i] s =
    some (if 0 ≤ i ∧ i < n then .ptr (.hp k) [i.toNat] 55 else .nilp, s) := by
  simp only [memV] at hs
  rw [rf_o D_nvm_Memory_at rfl]
  by_cases h1 : i < 0
  · rw [if_neg (by omega)]
    simp only [go_sem, h1]
  · by_cases h2 : (n : Int) ≤ i
    · rw [if_neg (by omega)]
      simp only [go_sem, h1, h2, hs]
    · obtain ⟨j, rfl⟩ : ∃ j : Nat, i = j := ⟨i.toNat, by omega⟩
      rw [if_pos (by omega)]
      have q := sad_all (a := .hp k) (e := 55) (show j < n by omega)
      simp only [go_sem, h1, h2, hs, q, Int.toNat_natCast]
/-- What a line has is loaded. -/
theorem rf_nvm_Load {n k m i : Nat} {burns : Bool} {left steps : Int} {T : List V} {x : List Int} {sure since fl : V} (s : St) (hs : s.hp[m]? = some (.rw (memV k n false burns left steps))) (hk : s.hp[k]? = some (.rw (.agg 57 T)))
    (hT : T[i]? = some (nlV (lnV x) sure since fl)) (hi : i < n) : rf D f_nvm_Memory_Load [.ptr (.hp m) [] 59, .int .i64 i] s = some (.tup [lnV x, .int .i64 0], s) := by
  have ha := fun L => rf_nvm_at ⟨s.loc ++ L, s.hp⟩ hs i
  simp only [show ((0 : Int) ≤ (i : Int) ∧ (i : Int) < (n : Int)) from ⟨by omega, by omega⟩, and_self, if_true, Int.toNat_natCast] at ha
  simp only [memV, nlV, lnV] at *
  rw [rf_o D_nvm_Memory_Load rfl]
  simp only [go_sem, ha, hs, hk, hT]
/-! ### The document's memory -/
def rmV (k n k2 : Nat) (off : Bool) (left count : Int) : V := .agg 33 [.sl (.hp k) [] 0 n none 24, .sl (.hp k2) [] 0 n (some n) 1, .bool off, .int .i64 left, .int .i64 count]
theorem rf_ref03_Of {n a : Nat} {ls : Nat → List Int} (h0 : 64 ≤ n) (h1 : n ≤ 1024) (s : St) (hs : s.loc[a]? = some (.rw (.agg 58 (tab n fun i => lnV (ls i))))) : rf D f_steadfastref03_Of [.sl (.loc a) [] 0 n (some n) 24] s =
    some (.tup [.ptr (.hp (s.hp.length + 3)) [] 33, .int .i64 0], ⟨s.loc, s.hp ++ [.rw (.agg 58 []), .rw (.agg 58 (tab n fun i => lnV (ls i))), .rw (.agg 53 (tab n fun _ => .nils)),
      .rw (.agg 33 [.sl (.hp (s.hp.length + 1)) [] 0 n none 24, .sl (.hp (s.hp.length + 2)) [] 0 n (some n) 1, .bool false, .int .i64 (-1), .int .i64 0])]⟩) := by
  have c1 : ¬ (n : Int) < 64 := by omega
  have c2 : ¬ 1024 < (n : Int) := by omega
  have c3 : (0 : Int) ≤ n := by omega
  have hm : (n : Int) ≤ (most : Nat) := by unfold most; omega
  have hl := tab_len n fun i => lnV (ls i)
  rw [rf_o D_steadfastref03_Of rfl, ← tab_rep]
  have happ := app_full (base := s.loc.length) (r := 58) (e := 24) (h := true) (s := ⟨s.loc, s.hp ++ [.rw (.agg 58 [])]⟩) (a := .hp s.hp.length) (p := []) (o := 0) (n := 0) (c := 0) (y := .sl (.loc a) [] 0 n (some n) 24) (old := []) (new := tab n fun i => lnV (ls i))
    (.inr ⟨_, _, _, _, _, rfl⟩) (by simp [St.elems]) (elems_whole (t := 58) (by simp only [go_sem, hs]) hl.symm) (by intro h; rw [h] at hl; simp at hl; omega) (by simp only [List.length_nil, hl]; omega) (by simp only [List.length_nil, hl]; unfold most; omega) rfl
  generalize tab n (fun i => lnV (ls i)) = T at *
  simp only [List.nil_append, List.length_nil, Nat.zero_add, hl] at happ
  simp only [go_sem] at happ
  simp only [go_sem, c1, c2, c3, hm, happ, List.replicate_zero, Int.le_refl, Int.toNat_natCast]
theorem rf_ref03_is {n k k2 m : Nat} {off : Bool} {left count : Int} (s : St) (hs : s.hp[m]? = some (.rw (rmV k n k2 off left count))) {i : Nat} (hi : i < n) : rf D f_steadfastref03_Memory_is [.ptr (.hp m) [] 33, .int .i64 i] s = some (.bool true, s) := by
  simp only [rmV] at hs
  have c1 : (0 : Int) ≤ i := by omega
  have c2 : (i : Int) < n := by omega
  rw [rf_o D_steadfastref03_Memory_is rfl]
  simp only [go_sem, c1, c2, hs]
theorem rf_ref03_has0 {n k k2 m i : Nat} {off : Bool} {left count : Int} {T : List V} {x : List Int} (s : St) (hs : s.hp[m]? = some (.rw (rmV k n k2 off left count))) (hk : s.hp[k]? = some (.rw (.agg 58 T))) (hT : T[i]? = some (lnV x)) (hi : i < n) :
    rf D f_steadfastref03_Memory_has [.ptr (.hp m) [] 33, .int .i64 i, .int .i64 0] s = some (lnV x, s) := by
  have q := sad_all (a := .hp k) (e := 24) hi
  have q : sadv 24 (.sl (.hp k) [] 0 n none 24) (.int .i64 (i : Int)) = some (.ptr (.hp k) [i] 24) := by simp [sadv, hi]
  have loop : ∀ s' : St, rc D s.loc.length (.loop [0, 1, 2, 6, 7, 8] b_steadfastref03_Memory_has_0) [(0, .ptr (.hp m) [] 33), (1, .int .i64 i), (2, .int .i64 0), (6, .ptr (.loc s.loc.length) [] 24), (7, .ptr (.loc (s.loc.length + 1)) [] 24), (8, .int .i64 0)] s' =
      some (.exit 0, [(0, .ptr (.hp m) [] 33), (1, .int .i64 i), (2, .int .i64 0), (6, .ptr (.loc s.loc.length) [] 24), (7, .ptr (.loc (s.loc.length + 1)) [] 24), (8, .int .i64 0), (18, .bool false)], s') := by
    intro s'
    rw [rc_loop_o]
    simp only [go_sem, b_steadfastref03_Memory_has_0]
  simp only [rmV, lnV] at *
  rw [rf_o D_steadfastref03_Memory_has rfl]
  simp only [go_sem, hs, hk, q, hT, loop]
theorem rf_ref03_Load0 {n k k2 m i : Nat} {left count : Int} {T T2 : List V} {x : List Int} (s : St) (hs : s.hp[m]? = some (.rw (rmV k n k2 false left count))) (hk : s.hp[k]? = some (.rw (.agg 58 T))) (hT : T[i]? = some (lnV x))
    (hk2 : s.hp[k2]? = some (.rw (.agg 53 T2))) (hT2 : T2[i]? = some .nils) (hi : i < n) :
    rf D f_steadfastref03_Memory_Load [.ptr (.hp m) [] 33, .int .i64 i] s = some (.tup [lnV x, .int .i64 0], s) := by
  have q := sad_all (a := .hp k2) (e := 1) hi
  have h1 := fun L => rf_ref03_is ⟨s.loc ++ L, s.hp⟩ hs hi
  have h2 := fun L => rf_ref03_has0 ⟨s.loc ++ L, s.hp⟩ hs hk hT hi
  simp only [rmV, lnV] at *
  rw [rf_o D_steadfastref03_Memory_Load rfl]
  simp only [go_sem, hs, hk2, hT2, q, h1, h2]
end Go.Proofs.Ytpbpgbedkmbfkaa
