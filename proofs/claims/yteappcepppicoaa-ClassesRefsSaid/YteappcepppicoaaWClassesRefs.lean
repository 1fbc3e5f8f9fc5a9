/- ClassesRefs, the walk: all references stand within the object, behind its header. -/
import Derived.Test.YteappcepppicoaaAwake3
namespace Go.Proofs.Yteappcepppicoaa
open Go.RowKit Go.HK
set_option maxRecDepth 100000

theorem refsUp_sorted (c : Cls) (j : Nat) : (refsUp c j).Pairwise (· < ·) := by
  induction j with
  | zero => simp [refsUp]
  | succ j ih =>
    unfold refsUp
    split
    · rw [List.pairwise_append]
      refine ⟨ih, by simp, fun a ha b hb => ?_⟩
      simp at hb; subst hb
      have := (mem_refsUp c j a).1 ha
      omega
    · exact ih
theorem refsL_sorted (S : List Cls) (k len : Int) : (refsL S k len).Pairwise (· < ·) := by
  unfold refsL; split
  · exact refsUp_sorted _ _
  · simp
theorem refsL_mem {S : List Cls} {k len i : Int} (h : i ∈ refsL S k len) : 1 ≤ i ∧ i < (sizeP S k len).1 := by
  have := refB_eq S k len i
  unfold refB at this
  rw [decide_eq_true h] at this
  have := this.symm
  simp only [Bool.and_eq_true, decide_eq_true_eq] at this
  omega
theorem size_cases (S : List Cls) (k len : Int) : ((sizeP S k len).2 = 0 ∧ 1 ≤ (sizeP S k len).1) ∨ (¬ (sizeP S k len).2 = 0 ∧ (sizeP S k len).1 = 0) := by
  unfold sizeP
  cases fndC S k with
  | none =>
    simp only
    by_cases hk : k = 0
    · rw [if_pos hk]
      by_cases hl : len < 0 ∨ 65535 < len
      · rw [if_pos hl]; right; exact ⟨by simp, rfl⟩
      · rw [if_neg hl]; left; exact ⟨rfl, by show 1 ≤ 1 + len; omega⟩
    · rw [if_neg hk]; right; exact ⟨by simp, rfl⟩
  | some c =>
    simp only
    by_cases hk : mayB c = true
    · rw [if_pos hk]
      have hm := May_of hk
      unfold Cls.May at hm
      by_cases hl : len < 0 ∨ (if c.a = 0 then (0 : Int) else 1024) < len
      · rw [if_pos hl]; right; exact ⟨by simp, rfl⟩
      · rw [if_neg hl]; left; exact ⟨rfl, by show 1 ≤ 1 + c.r + c.w + len; omega⟩
    · rw [if_neg hk]; right; exact ⟨by simp, rfl⟩
theorem refsL_err {S : List Cls} {k len : Int} (h : ¬ (sizeP S k len).2 = 0) : refsL S k len = [] ∧ (sizeP S k len).1 = 0 := by
  constructor
  · rw [refsL, objC_eq, if_neg (fun h' => h h'.2)]
  · rcases size_cases S k len with h' | h'
    · exact absurd h'.1 h
    · exact h'.2
theorem size_pos {S : List Cls} {k len : Int} (h : (sizeP S k len).2 = 0) : 1 ≤ (sizeP S k len).1 := by
  rcases size_cases S k len with h' | h'
  · exact h'.2
  · exact absurd h h'.1
theorem refB_low (S : List Cls) (k len : Int) : refB S k len 0 = false := by
  unfold refB
  rw [decide_eq_false_iff_not]
  intro h; have := refsL_mem h; omega
theorem refB_high (S : List Cls) (k len : Int) : refB S k len (sizeP S k len).1 = false := by
  unfold refB
  rw [decide_eq_false_iff_not]
  intro h; have := refsL_mem h; omega
theorem refsL_zero (S : List Cls) (len : Int) : refsL S 0 len = [] := by
  rw [refsL, objC_eq]
  have : fndB S 0 = false := by simp [fndB, fndC]
  rw [this, if_neg (by simp)]
theorem sorted_step {L : List Int} (h : L.Pairwise (· < ·)) {i j : Nat} (hij : i < j) (hj : j < L.length) : L.getD i 0 < L.getD j 0 := by
  rw [List.pairwise_iff_getElem] at h
  have := h i j (by omega) hj hij
  simpa [List.getD_eq_getElem?_getD, List.getElem?_eq_getElem hj, List.getElem?_eq_getElem (show i < L.length by omega)] using this

set_option maxHeartbeats 1600000 in
theorem walk_ClassesRefs (a0 : Option Addr) (n0 c0 : Nat) (S0 : List Cls) (a1 : Int) (a2 : Int) (w : World) (w0 : RdS 3 Qcl w a0 n0 S0) (w1 : (Lit.int .i64 a1).wf = true) (w2 : (Lit.int .i64 a2).wf = true) :
    Calls Try.prog 4 #[.slice a0 n0 c0, .int .i64 a1, .int .i64 a2] w fun e w' => e = .returned (.bool true) ∧ Below w.heap.size w w' := by
  have hr2 := i64_of_wf w2
  have W0 := Lib.hid w0
  have hsz := fun w' (f : Fr (fun _ => False) w w') => c_Size a0 n0 c0 S0 a1 a2 w' (w0.fr f) hr2
  have hrf := fun w' (f : Fr (fun _ => False) w w') => c_Refs a0 n0 c0 S0 a1 a2 w' (w0.fr f) hr2
  have hR := fun w' (f : Fr (fun _ => False) w w') i => c_Ref a0 n0 c0 S0 a1 a2 i w' (w0.fr f) hr2
  have HZ := Lib.hid hsz
  have HF := Lib.hid hrf
  have HR := Lib.hid hR
  clear w0 w1 w2 hsz hrf hR
  by_cases hse : (sizeP S0 a1 a2).2 = 0
  · have hb := size_bd S0 a1 a2
    have hp := size_pos hse
    have hsort := refsL_sorted S0 a1 a2
    have hmem := fun i => @refsL_mem S0 a1 a2 i
    have hB : ∀ i, i ∈ refsL S0 a1 a2 → refB S0 a1 a2 i = true := fun i h => decide_eq_true h
    have hlow := refB_low S0 a1 a2
    have hhigh := refB_high S0 a1 a2
    have hz : a1 = 0 → refsL S0 a1 a2 = [] := by rintro rfl; exact refsL_zero _ _
    have hll : (refsL S0 a1 a2).length ≤ 65536 := by
      unfold refsL
      cases objC S0 a1 a2 with
      | none => simp
      | some c => have := refsUp_le c ((sizeP S0 a1 a2).1 - 1).toNat; simp only; omega
    rw [hse] at HZ
    have HSO := Lib.hid hsort
    have HME := Lib.hid hmem
    have HBB := Lib.hid hB
    have HLO := Lib.hid hlow
    have HHI := Lib.hid hhigh
    have HZZ := Lib.hid hz
    obtain ⟨hb1, hb2⟩ := hb
    clear hse hsort hmem hB hlow hhigh hz
    generalize (sizeP S0 a1 a2).1 = sz at *
    generalize refsL S0 a1 a2 = L at *
    obtain ⟨m, hm⟩ : ∃ m, m = L.length := ⟨_, rfl⟩
    have HM := Lib.hid hm
    rw [← hm] at hll
    clear hm
    go_enter Try.func4, Try.ntmps4
    go_wp2_with fail
    refine (awake_true w).mono ?_
    rintro e wa ⟨rfl, f0⟩
    go_wp2_with fail
    refine (HZ.out _ f0).mono ?_
    rintro e wb ⟨rfl, f1⟩
    have G1 := f0.trans f1
    go_wp2_with fail
    refine (HF.out _ G1).mono ?_
    rintro e wc ⟨v, rfl, hv, f2⟩
    have G2 := G1.trans f2
    obtain ⟨sa, cap, rfl, _, hcv⟩ := owns_at hv
    rw [← HM.out] at hcv ⊢
    clear f0 f1 f2 G1 HZ HF hv
    go_wp2_with fail
    go_loopw [11, 12] (fun kk i wr => ∃ (j : Nat) (u : Int), i = .int .i64 j ∧ j ≤ m ∧ kk = .int .i64 u ∧ (j = 0 ∧ u = 0 ∨ 0 < j ∧ u = L.getD (j - 1) 0) ∧ Fr (fun _ => False) w wr ∧ Fr (fun _ => False) wc wr) (fun _ i _ => m - (intOf i).toNat)
    case atStart => exact ⟨0, 0, rfl, by omega, rfl, .inl ⟨rfl, rfl⟩, G2, Fr.refl _ _⟩
    case round =>
      obtain ⟨j, u, rfl, hj, rfl, hu, G, Gc⟩ := hrel
      by_cases hlt : j < m
      · obtain ⟨g, rfl, _, hgl, hg⟩ := hcv (by omega)
        have hx := Gc.cell (hg j hlt) (fun h => h)
        have hmm : L.getD j 0 ∈ L := by
          have h1 : j < L.length := by have := HM.out; omega
          rw [List.getD_eq_getElem?_getD, List.getElem?_eq_getElem h1]
          exact List.getElem_mem h1
        have h1 := HME.out _ hmm
        have h2 := HBB.out _ hmm
        have h3 : u < L.getD j 0 := by
          rcases hu with ⟨_, rfl⟩ | ⟨hj0, rfl⟩
          · omega
          · exact sorted_step HSO.out (by omega) (by have := HM.out; omega)
        have hr := HR.out _ G (L.getD j 0)
        rw [h2] at hr
        have HRR := Lib.hid hr
        obtain ⟨h1, h1'⟩ := h1
        have hjj : L.getD j 0 = L.getD (j + 1 - 1) 0 := rfl
        have HJ := Lib.hid hjj
        clear hu hg hmm h2 hr hjj
        generalize L.getD j 0 = x at *
        go_wp2_with fail
        refine HRR.out.mono ?_
        rintro e wd ⟨rfl, f3⟩
        have hx' := f3.cell hx (fun h => h)
        have G' := G.trans f3
        have Gc' := Gc.trans f3
        clear f3 G Gc hx HRR
        go_wp2
        go_roundw
        case rel => exact ⟨j + 1, x, by go_num, by omega, rfl, .inr ⟨by omega, HJ.out⟩, G', Gc'⟩
        case measure => simp [intOf]; omega
      · have hr0 := HR.out _ G 0
        rw [HLO.out] at hr0
        have H0 := Lib.hid hr0
        clear hr0 hu
        go_wp2_with fail
        refine H0.out.mono ?_
        rintro e wd ⟨rfl, f3⟩
        have G' := G.trans f3
        have hr1 := HR.out _ G' sz
        rw [HHI.out] at hr1
        have H1 := Lib.hid hr1
        clear hr1 f3 G Gc
        go_wp2_with fail
        refine H1.out.mono ?_
        rintro e we ⟨rfl, f4⟩
        have G'' := G'.trans f4
        clear f4 G'
        by_cases hk : a1 = 0
        · have hL := HZZ.out hk
          have hm0 : m = 0 := by rw [HM.out, hL]; rfl
          subst hm0
          have hkb : (a1 != 0) = false := by simpa using hk
          clear hk hL
          go_wp2
          go_ret
          exact ⟨rfl, G''.below (Nat.le_refl _) (fun _ _ h => h)⟩
        · have hkb : (a1 != 0) = true := by simpa using hk
          clear hk
          go_wp2
          go_ret
          exact ⟨rfl, G''.below (Nat.le_refl _) (fun _ _ h => h)⟩
  · obtain ⟨hL, hs⟩ := refsL_err hse
    rw [hs] at HZ
    rw [hL] at HF
    have hseb : ((sizeP S0 a1 a2).2 != 0) = true := by simpa using hse
    clear hse hL hs HR
    generalize (sizeP S0 a1 a2).2 = se at *
    go_enter Try.func4, Try.ntmps4
    go_wp2_with fail
    refine (awake_true w).mono ?_
    rintro e wa ⟨rfl, f0⟩
    go_wp2_with fail
    refine (HZ.out _ f0).mono ?_
    rintro e wb ⟨rfl, f1⟩
    have G1 := f0.trans f1
    go_wp2_with fail
    refine (HF.out _ G1).mono ?_
    rintro e wc ⟨v, rfl, hv, f2⟩
    have G2 := G1.trans f2
    obtain ⟨sa, cap, rfl, _, hcv⟩ := owns_at hv
    clear hv hcv f0 f1 f2 G1
    go_wp2
    go_ret
    exact ⟨by simp, G2.below (Nat.le_refl _) (fun _ _ h => h)⟩
end Go.Proofs.Yteappcepppicoaa
