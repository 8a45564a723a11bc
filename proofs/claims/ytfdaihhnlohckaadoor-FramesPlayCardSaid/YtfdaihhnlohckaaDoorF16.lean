/-
  FramesP: the law FramesPlay.
-/
import Derived.Test.YtfdaihhnlohckaaDoorF15
set_option maxRecDepth 100000
namespace Go.Proofs.YtfdaihhnlohckaaDoor
open Go.Ab

structure PSt where
  i : Nat
  hp : List Blk
  a : Nat
  wf : List Nat
  wl : List Nat
  S : List Int
def PSt.env (x : PSt) (f l : Int) (v : V) (b : Nat) : Env := [(0, .int .i64 f), (1, .int .i64 l), (2, v), (8, .ptr (.hp x.a) [] 80), (10, .ptr (.hp b) [] 21), (12, .int .i64 x.i)]
structure PInv (hp0 : List Blk) (b c : Nat) (f l : Int) (x : PSt) : Prop where
  i : x.i ≤ 150
  pl : Pl x.hp x.a b c f l x.wf x.wl x.S
  pre : hp0 <+: x.hp
  la : hp0.length ≤ x.a
theorem play_loop (hp0 : List Blk) (hG : hp0[0]? = some (.ro globV_0)) (b c : Nat) (hlc : hp0.length ≤ c) (f l : Int) (v : V) (lo : List (Int × Int)) (hlo : ∀ x ∈ lo, (-9223372036854775808 ≤ x.1 ∧ x.1 ≤ 9223372036854775807) ∧ -9223372036854775808 ≤ x.2 ∧ x.2 ≤ 9223372036854775807)
    (hv : v.locLt 0 = true) (hrs : RS ⟨[], hp0⟩ 34 v (lo.map opV)) (x0 : PSt) (hx0 : PInv hp0 b c f l x0) :
    ∃ r, rc D 0 (.loop [0, 1, 2, 8, 10, 12] b_steadfastlaw04_FramesPlay_0) (x0.env f l v b) ⟨[], x0.hp⟩ = some r ∧
      ∃ x : PSt, PInv hp0 b c f l x ∧ r = (.exit 0, x.env f l v b ++ [(56, .bool false)], ⟨[], x.hp⟩) := by
  refine loop_ex (fun x : PSt => x.env f l v b) (fun x => ⟨[], x.hp⟩) _ (fun x => 150 - x.i) (fun x => PInv hp0 b c f l x) x0 ?_ hx0 rfl rfl
  rintro ⟨i, hp, a, wf, wl, S⟩ ⟨hi, hpl, hpre, hla⟩
  simp only at hi hpl hpre hla
  have hrr : ∀ L, RS ⟨L, hp⟩ 34 v (lo.map opV) := fun L => hrs.more ⟨by simp, hpre⟩
  have hs := (hrr []).slen
  rw [List.length_map] at hs
  have hG' : hp[0]? = some (.ro globV_0) := prefix_get hpre hG
  by_cases c1 : i < lo.length
  · by_cases c2 : i < 150
    · left
      have d1 : (i : Int) < lo.length := by omega
      have d2 : (i : Int) < 150 := by omega
      have d4 : IntKind.i64.wrap ((i : Int) + 1) = (i : Int) + 1 := i64_id (by omega) (by omega)
      have hg := get_map (f := opV) c1 (0, 0)
      obtain ⟨hx1, hx2⟩ := hlo _ (getD_mem c1 (0, 0))
      generalize lo.getD i (0, 0) = o at *
      obtain ⟨kd, ln⟩ := o
      simp only [opV] at hg hx1 hx2
      have k2 := fun s => rf_kind kd 8 hx1.1 hx1.2 (by decide) s
      have kl2 := kind_lt kd 8 (by decide)
      generalize kindI kd 8 = q at *
      -- what is looked at behind the call
      have look : ∀ {hp' : List Blk} {a' : Nat} {wf' wl' : List Nat} {S' : List Int}, Pl hp' a' b c f l wf' wl' S' → ∃ (n st : Int),
          rf D f_frames_Frames_Left [.ptr (.hp a') [] 80] ⟨[], hp'⟩ = some (.int .i64 n, ⟨[], hp'⟩) ∧ rf D f_steadfastref04_Frames_Left [.ptr (.hp b) [] 21] ⟨[], hp'⟩ = some (.int .i64 n, ⟨[], hp'⟩) ∧
          rf D f_frames_Frames_State [.ptr (.hp a') [] 80, .int .i64 ln] ⟨[], hp'⟩ = some (.int .i64 st, ⟨[], hp'⟩) ∧ rf D f_steadfastref04_Frames_State [.ptr (.hp b) [] 21, .int .i64 ln] ⟨[], hp'⟩ = some (.int .i64 st, ⟨[], hp'⟩) := by
        intro hp' a' wf' wl' S' P
        have q1 := rf_Left (P.fr (L := []))
        rw [P.left] at q1
        have q4 := rf_rState (P.rr (L := [])) ln hx2.2
        rw [P.same] at q4
        exact ⟨_, _, q1, rf_rLeft P.rr, rf_State P.fr ln, q4⟩
      by_cases q012 : q = 0 ∨ q = 1 ∨ q = 2
      · obtain ⟨x, e, hp1, hp', wf', S', r1, r2, P', K⟩ := hpl.allocs hG' [.rw (.agg 34 [.int .i64 kd, .int .i64 ln])]
        obtain ⟨n, st, s1, s2, s3, s4⟩ := look P'
        refine ⟨⟨i + 1, hp', a, wf', wl, S'⟩, ⟨by simp only; omega, P', pre_keep hpre K hla hlc, hla⟩, by simp only; omega, ?_⟩
        simp only [PSt.env]
        rcases q012 with rfl | rfl | rfl <;>
        · simp only [go_sem, b_steadfastlaw04_FramesPlay_0, hs, d1, d2, (hrr []).sadq hg, (hrr []).ldq hg, k2, r1, r2, s1, s2, s3, s4, eq_self, decide_true, d4, hv]
          rfl
      · have q0 : ¬ q = 0 := fun h => q012 (.inl h)
        have q1 : ¬ q = 1 := fun h => q012 (.inr (.inl h))
        have q2 : ¬ q = 2 := fun h => q012 (.inr (.inr h))
        by_cases q3 : q = 3
        · subst q3
          obtain ⟨e, hp1, hp', wf', S', r1, r2, P', K⟩ := hpl.takes ln hx2.2 [.rw (.agg 34 [.int .i64 kd, .int .i64 ln])]
          obtain ⟨n, st, s1, s2, s3, s4⟩ := look P'
          refine ⟨⟨i + 1, hp', a, wf', wl, S'⟩, ⟨by simp only; omega, P', pre_keep hpre K hla hlc, hla⟩, by simp only; omega, ?_⟩
          simp only [PSt.env]
          simp only [go_sem, b_steadfastlaw04_FramesPlay_0, hs, d1, d2, (hrr []).sadq hg, (hrr []).ldq hg, k2, r1, r2, s1, s2, s3, s4, eq_self, decide_true, d4, hv]
          rfl
        · by_cases q4 : q = 4
          · subst q4
            obtain ⟨e, hp1, hp', wf', S', r1, r2, P', K⟩ := hpl.frees ln hx2.2 [.rw (.agg 34 [.int .i64 kd, .int .i64 ln])]
            obtain ⟨n, st, s1, s2, s3, s4⟩ := look P'
            refine ⟨⟨i + 1, hp', a, wf', wl, S'⟩, ⟨by simp only; omega, P', pre_keep hpre K hla hlc, hla⟩, by simp only; omega, ?_⟩
            simp only [PSt.env]
            simp only [go_sem, b_steadfastlaw04_FramesPlay_0, hs, d1, d2, (hrr []).sadq hg, (hrr []).ldq hg, k2, r1, r2, s1, s2, s3, s4, eq_self, decide_true, d4, hv]
            rfl
          · by_cases q5 : q = 5
            · subst q5
              obtain ⟨e, hp1, hp', wl', S', r1, r2, P', K⟩ := hpl.laters ln hx2.2 [.rw (.agg 34 [.int .i64 kd, .int .i64 ln])]
              obtain ⟨n, st, s1, s2, s3, s4⟩ := look P'
              refine ⟨⟨i + 1, hp', a, wf, wl', S'⟩, ⟨by simp only; omega, P', pre_keep hpre K hla hlc, hla⟩, by simp only; omega, ?_⟩
              simp only [PSt.env]
              simp only [go_sem, b_steadfastlaw04_FramesPlay_0, hs, d1, d2, (hrr []).sadq hg, (hrr []).ldq hg, k2, r1, r2, s1, s2, s3, s4, eq_self, decide_true, d4, hv]
              rfl
            · by_cases q6 : q = 6
              · subst q6
                obtain ⟨hp1, hp', wf', S', r1, r2, P', K⟩ := hpl.settles [.rw (.agg 34 [.int .i64 kd, .int .i64 ln])]
                obtain ⟨n, st, s1, s2, s3, s4⟩ := look P'
                refine ⟨⟨i + 1, hp', a, wf', w16 [], S'⟩, ⟨by simp only; omega, P', pre_keep hpre K hla hlc, hla⟩, by simp only; omega, ?_⟩
                simp only [PSt.env]
                simp only [go_sem, b_steadfastlaw04_FramesPlay_0, hs, d1, d2, (hrr []).sadq hg, (hrr []).ldq hg, k2, r1, r2, s1, s2, s3, s4, eq_self, decide_true, d4, hv]
                rfl
              · have q7 : q = 7 := by omega
                subst q7
                obtain ⟨hp1, hp2, hp3, x, e, x', e', r1, r2, r3, r4, P', K, hlen⟩ := hpl.clone hG' [.rw (.agg 34 [.int .i64 kd, .int .i64 ln])]
                obtain ⟨n, st, s1, s2, s3, s4⟩ := look P'
                have hpre' : hp0 <+: hp3 := by
                  have hle := hpre.length_le
                  have e : hp3.take hp0.length = hp0 := by
                    apply List.ext_getElem?
                    intro j
                    rw [List.getElem?_take]
                    by_cases hj : j < hp0.length
                    · rw [if_pos hj, K j (by omega) (by omega)]
                      obtain ⟨t, rfl⟩ := hpre
                      rw [List.getElem?_append_left hj]
                    · rw [if_neg hj, List.getElem?_eq_none (by omega)]
                  rw [← e]
                  exact List.take_prefix _ _
                refine ⟨⟨i + 1, hp3, hp.length, wf, wl, S⟩, ⟨by simp only; omega, P', hpre', hpre.length_le⟩, by simp only; omega, ?_⟩
                simp only [PSt.env]
                simp only [go_sem, b_steadfastlaw04_FramesPlay_0, hs, d1, d2, (hrr []).sadq hg, (hrr []).ldq hg, k2, r1, r2, r3, r4, s1, s2, s3, s4, eq_self, decide_true, d4, hv]
                rfl
    · right
      have d1 : (i : Int) < lo.length := by omega
      have d2 : ¬ (i : Int) < 150 := by omega
      refine ⟨_, ?_, ⟨i, hp, a, wf, wl, S⟩, ⟨hi, hpl, hpre, hla⟩, rfl⟩
      simp only [PSt.env]
      simp only [go_sem, b_steadfastlaw04_FramesPlay_0, hs, d1, d2]
  · right
    have d1 : ¬ (i : Int) < lo.length := by omega
    refine ⟨_, ?_, ⟨i, hp, a, wf, wl, S⟩, ⟨hi, hpl, hpre, hla⟩, rfl⟩
    simp only [PSt.env]
    simp only [go_sem, b_steadfastlaw04_FramesPlay_0, hs, d1]
end Go.Proofs.YtfdaihhnlohckaaDoor
