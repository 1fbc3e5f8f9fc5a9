/- ClassesGrow, the walk: an array of one element more has one word more; all else has one length. -/
import Derived.Test.YteappcepppicoaaAwake3
namespace Go.Proofs.Yteappcepppicoaa
open Go.RowKit Go.HK
set_option maxRecDepth 100000

theorem chk_zero {S : List Cls} (h : chkE S = 0) : S.all mayB = true := by
  unfold chkE at h
  by_cases h1 : S.length ≤ 16 ∧ S.all mayB = true
  · exact h1.2
  · rw [if_neg h1] at h; simp at h
theorem grow_size {S : List Cls} {k : Int} {c : Cls} (hf : fndC S k = some c) (hm : mayB c = true) (len : Int) (h0 : 0 ≤ len) :
    sizeP S k len = if c.a = 0 then (if 0 < len then (0, 11) else (1 + c.r + c.w + len, 0)) else (if 1024 < len then (0, 11) else (1 + len, 0)) := by
  have hmm := May_of hm
  unfold Cls.May at hmm
  rw [sizeP, hf]
  simp only
  rw [if_pos hm]
  by_cases ha : c.a = 0
  · rw [if_pos ha, if_pos ha]
    by_cases hl : 0 < len
    · rw [if_pos (.inr hl), if_pos hl]
    · rw [if_neg (by omega), if_neg hl]
  · rw [if_neg ha, if_neg ha]
    by_cases hl : 1024 < len
    · rw [if_pos (.inr hl), if_pos hl]
    · rw [if_neg (by omega), if_neg hl]
      have h1 : c.r = 0 := by omega
      have h2 : c.w = 0 := by omega
      rw [h1, h2]; simp

set_option maxHeartbeats 3200000 in
theorem walk_ClassesGrow (a0 : Option Addr) (n0 c0 : Nat) (S0 : List Cls) (a1 : Int) (a2 : Int) (w : World) (w0 : RdS 3 Qcl w a0 n0 S0) (w1 : (Lit.int .i64 a1).wf = true) (w2 : (Lit.int .i64 a2).wf = true) :
    Calls Try.prog 6 #[.slice a0 n0 c0, .int .i64 a1, .int .i64 a2] w fun e w' => e = .returned (.bool true) ∧ Below w.heap.size w w' := by
  have hn := w0.le
  unfold maxLen at hn
  have hl := w0.hlen
  have hck := fun w' (f : Fr (fun _ => False) w w') => c_Check a0 n0 c0 S0 w' (w0.fr f)
  have HC := Lib.hid hck
  have W0 := Lib.hid w0
  have hr1 := i64_of_wf w1
  unfold I64 at hr1
  obtain ⟨hr1, hr1'⟩ := hr1
  have h3 : (0 ≤ a2 ∧ 0 ≤ a2 % 1024 ∧ ∃ N : Nat, a2 % 1024 = N ∧ N ≤ 1023) ∨ (-1024 < a2.tmod 1024 ∧ a2.tmod 1024 < 0 ∧ ∃ N : Nat, -(a2.tmod 1024) = N ∧ N ≤ 1023) ∨ (-1024 < a2.tmod 1024 ∧ ¬ a2.tmod 1024 < 0 ∧ ∃ N : Nat, a2.tmod 1024 = N ∧ N ≤ 1023) := by
    have h4 := Int.tmod_lt_of_pos a2 (b := 1024) (by omega)
    have h5 := Int.lt_tmod_of_pos a2 (b := 1024) (by omega)
    by_cases h0 : 0 ≤ a2
    · exact .inl ⟨h0, by omega, (a2 % 1024).toNat, by omega, by omega⟩
    · by_cases h1 : a2.tmod 1024 < 0
      · exact .inr (.inl ⟨by omega, h1, (-(a2.tmod 1024)).toNat, by omega, by omega⟩)
      · exact .inr (.inr ⟨by omega, h1, (a2.tmod 1024).toNat, by omega, by omega⟩)
  have hsz := fun w' (f : Fr (fun _ => False) w w') (N : Nat) (hN : N ≤ 1024) => c_Size a0 n0 c0 S0 a1 N w' (w0.fr f) ⟨by omega, by omega⟩
  have HZ := Lib.hid hsz
  clear w1 w2 w0 hck hsz
  have hcase : (¬ chkE S0 = 0) ∨ (chkE S0 = 0 ∧ a1 < 1) ∨ (chkE S0 = 0 ∧ 1 ≤ a1 ∧ (n0 : Int) < a1) ∨ (chkE S0 = 0 ∧ 1 ≤ a1 ∧ a1 ≤ (n0 : Int)) := by omega
  have finish : ∀ (wd : World), Fr (fun _ => False) w wd → Below w.heap.size w wd := fun wd h => h.below (Nat.le_refl _) (fun _ _ h => h)
  have HFN := Lib.hid finish
  clear finish
  rcases hcase with hc | ⟨hc, hk⟩ | ⟨hc, hk, hk'⟩ | ⟨hc, hk, hk'⟩
  · have hcb : (chkE S0 != 0) = true := by simpa using hc
    clear hc hl
    generalize chkE S0 = ce at *
    rcases h3 with ⟨ha, hneg, N, hN, hN40⟩ | ⟨ha, hneg, N, hN, hN40⟩ | ⟨ha, hneg, N, hN, hN40⟩
    all_goals
      clear hN
      go_enter Try.func6, Try.ntmps6
      go_wp2_with fail
      refine (awake_true w).mono ?_
      rintro e wa ⟨rfl, f0⟩
      go_wp2_with fail
      refine (HC.out _ f0).mono ?_
      rintro e wb ⟨rfl, f1⟩
      go_wp2
      go_ret
      exact ⟨rfl, HFN.out _ (f0.trans f1)⟩
  · rw [hc] at HC
    clear hc hl
    rcases h3 with ⟨ha, hneg, N, hN, hN40⟩ | ⟨ha, hneg, N, hN, hN40⟩ | ⟨ha, hneg, N, hN, hN40⟩
    all_goals
      clear hN
      go_enter Try.func6, Try.ntmps6
      go_wp2_with fail
      refine (awake_true w).mono ?_
      rintro e wa ⟨rfl, f0⟩
      go_wp2_with fail
      refine (HC.out _ f0).mono ?_
      rintro e wb ⟨rfl, f1⟩
      go_wp2
      go_ret
      exact ⟨rfl, HFN.out _ (f0.trans f1)⟩
  · rw [hc] at HC
    clear hc hl
    rcases h3 with ⟨ha, hneg, N, hN, hN40⟩ | ⟨ha, hneg, N, hN, hN40⟩ | ⟨ha, hneg, N, hN, hN40⟩
    all_goals
      clear hN
      go_enter Try.func6, Try.ntmps6
      go_wp2_with fail
      refine (awake_true w).mono ?_
      rintro e wa ⟨rfl, f0⟩
      go_wp2_with fail
      refine (HC.out _ f0).mono ?_
      rintro e wb ⟨rfl, f1⟩
      go_wp2
      go_ret
      exact ⟨rfl, HFN.out _ (f0.trans f1)⟩
  · rw [hc] at HC
    have hall := chk_zero hc
    have hlt : a1.toNat - 1 < S0.length := by omega
    have hS : S0[a1.toNat - 1]? = some S0[a1.toNat - 1] := List.getElem?_eq_getElem hlt
    have hm : mayB S0[a1.toNat - 1] = true := by rw [List.all_eq_true] at hall; exact hall _ (List.getElem_mem hlt)
    generalize S0[a1.toNat - 1] = c at hS hm
    have hf : fndC S0 a1 = some c := by rw [fndC, if_pos hk]; exact hS
    have hg := fun len h0 => grow_size hf hm len h0
    have HG := Lib.hid hg
    have HS := Lib.hid hS
    have hmm := May_of hm
    unfold Cls.May at hmm
    have hbd : 0 ≤ c.r ∧ c.r ≤ 64 ∧ 0 ≤ c.w ∧ c.w ≤ 64 := by omega
    obtain ⟨b1, b2, b3, b4⟩ := hbd
    clear hc hall hlt hS hm hf hg hmm hl
    rcases h3 with ⟨ha, hneg, N, hN, hN40⟩ | ⟨ha, hneg, N, hN, hN40⟩ | ⟨ha, hneg, N, hN, hN40⟩
    all_goals
      have HN := Lib.hid hN
      clear hN
      have hz1 := fun w' f => HZ.out w' f N (by omega)
      have hz2 := fun w' f => HZ.out w' f (N + 1) (by omega)
      rw [HG.out N (by omega)] at hz1
      rw [show ((N + 1 : Nat) : Int) = (N : Int) + 1 by omega, HG.out ((N : Int) + 1) (by omega)] at hz2
      have HZ1 := Lib.hid hz1
      have HZ2 := Lib.hid hz2
      clear hz1 hz2
      go_enter Try.func6, Try.ntmps6
      go_wp2_with fail
      refine (awake_true w).mono ?_
      rintro e wa ⟨rfl, f0⟩
      go_wp2_with fail
      refine (HC.out _ f0).mono ?_
      rintro e wb ⟨rfl, f1⟩
      have G1 := f0.trans f1
      clear f0 f1 HC
      go_wp2_with fail
      rw [HN.out]
      refine (HZ1.out _ G1).mono ?_
      rintro e wc ⟨he, f2⟩
      have G2 := G1.trans f2
      clear f2 G1 HZ1
      by_cases hca : c.a = 0
      · rw [if_pos hca] at he HZ2
        rw [if_pos (show (0 : Int) < (N : Int) + 1 by omega)] at HZ2
        by_cases hN0 : (0 : Int) < N
        · rw [if_pos hN0] at he
          subst he
          have hnb : ((N : Int) == 0) = false := by simp; omega
          go_wp2_with fail
          refine (HZ2.out _ G2).mono ?_
          rintro e wd ⟨rfl, f3⟩
          have G3 := G2.trans f3
          obtain ⟨b, off, rfl, hb, c0, c1, c2, r0, r1, r2⟩ := (W0.out.fr G3).cls HS.out
          rw [hca] at c2
          clear f3 G2 HZ2 hca
          go_wp2
          go_ret
          exact ⟨by simp, HFN.out _ G3⟩
        · rw [if_neg hN0] at he
          subst he
          obtain rfl : N = 0 := by omega
          go_wp2_with fail
          refine (HZ2.out _ G2).mono ?_
          rintro e wd ⟨rfl, f3⟩
          have G3 := G2.trans f3
          obtain ⟨b, off, rfl, hb, c0, c1, c2, r0, r1, r2⟩ := (W0.out.fr G3).cls HS.out
          rw [hca] at c2
          clear f3 G2 HZ2 hca
          go_wp2
          go_ret
          exact ⟨by simp, HFN.out _ G3⟩
      · rw [if_neg hca] at he HZ2
        rw [if_neg (show ¬ (1024 : Int) < (N : Int) + 1 by omega)] at HZ2
        rw [if_neg (show ¬ (1024 : Int) < (N : Int) by omega)] at he
        subst he
        have hab : (c.a == 0) = false := by simpa using hca
        have e1 : (1 + ((N : Int) + 1) == 1 + (N : Int) + 1) = true := by simp; omega
        have e2 : (1 + (N : Int) == (N : Int) + 1) = true := by simp; omega
        go_wp2_with fail
        refine (HZ2.out _ G2).mono ?_
        rintro e wd ⟨rfl, f3⟩
        have G3 := G2.trans f3
        obtain ⟨b, off, rfl, hb, c0, c1, c2, r0, r1, r2⟩ := (W0.out.fr G3).cls HS.out
        clear f3 G2 HZ2 hca
        go_wp2
        go_ret
        exact ⟨by simp, HFN.out _ G3⟩
end Go.Proofs.Yteappcepppicoaa
