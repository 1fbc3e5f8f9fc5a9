/- The document's answer: which instructions may be. -/
import Derived.Test.YtobghplhoeangaaCk2
import Derived.Deep.QuietTactic
import Derived.BigQuiet
namespace Go.Proofs.Ytobghplhoeangaa
open Go.RowKit Go.HK
set_option maxRecDepth 100000

theorem belowB_three (m a b c : Int) : belowB m [a, b, c] = decide ((0 ≤ a ∧ a < m) ∧ (0 ≤ b ∧ b < m) ∧ (0 ≤ c ∧ c < m)) := by
  simp [belowB, Bool.and_assoc]
theorem insB_x {S : List Cls} {len refs ints nf op a b c n : Int} (h : belowB 8 [a, b, c] = true) (h2 : op < 0 ∨ 40 < op) : insB S len refs ints nf ⟨op, a, b, c, n⟩ = false :=
  insB_b2 h (by rw [belowB_one]; exact decide_eq_false (by omega))

theorem fr_drewN2 {S : Nat → Prop} {w w' : World} (h : Fr S w w') (n : Nat) : Fr S w (w'.drewN n) := ⟨h.os, h.tape, h.output, h.size, h.block⟩

set_option maxHeartbeats 4000000 in
theorem r_Instr (ac : Option Addr) (nc cc : Nat) (af : Option Addr) (nf cf : Nat) (refs ints len : Int) (S : List Cls) (x : Ins) (w : World)
    (hS : RdS 3 Qcl w ac nc S) (hr : x.rng) (hn1 : nc ≤ 16) (hnf : nf ≤ 1000000) (hri : I64 refs ∧ I64 ints ∧ I64 len) :
    Calls Try.prog 19 #[.agg (pCells ac nc cc af nf cf refs ints).toArray, .int .i64 len, x.val] w fun e w' => e = .returned (.bool (insB S len refs ints nf x)) ∧ Fr (fun _ => False) w w' := by
  obtain ⟨op, a, b, c, n⟩ := x
  obtain ⟨r1, r2, r3, r4, r5⟩ := hr
  unfold Ins.val pCells
  simp only at *
  have hl := hS.hlen
  have F1 : Fr (fun _ => False) w ((w.alloc (.cells #[.slice ac nc cc, .slice af nf cf, .int .i64 refs, .int .i64 ints] 25)).alloc (.cells #[.int .i64 op, .int .i64 a, .int .i64 b, .int .i64 c, .int .i64 n] 37)) := ((Fr.refl _ _).alloc _).alloc _
  have hcl : 1 ≤ n → n ≤ nc → ∃ q off, ac = some ⟨q, off, none⟩ ∧ ((w.alloc (.cells #[.slice ac nc cc, .slice af nf cf, .int .i64 refs, .int .i64 ints] 25)).alloc (.cells #[.int .i64 op, .int .i64 a, .int .i64 b, .int .i64 c, .int .i64 n] 37)).cell? ⟨q, off + (n.toNat - 1) * 3 + 2, none⟩ = some (.int .i64 (clsA S n)) := fun h1 h2 => by
    have hlt : n.toNat - 1 < S.length := by omega
    obtain ⟨q, off, e, _, _, _, h3, _⟩ := hS.cls (List.getElem?_eq_getElem hlt)
    refine ⟨q, off, e, ?_⟩
    have := F1.cell h3 (fun h => h)
    rw [this]
    unfold clsA
    rw [List.getD_eq_getElem?_getD, List.getElem?_eq_getElem hlt]
    rfl
  have HF := Lib.hid F1
  have HC := Lib.hid hcl
  have HL := Lib.hid hl
  have HR := Lib.hid hri
  have hz1 := r5.1
  have hz2 := r5.2
  clear hS F1 hcl hl r1 r2 r3 r4 r5 hri
  cases hbA : belowB 8 [a, b, c] with
  | false =>
    rw [insB_b1 hbA]
    rw [belowB_three, decide_eq_false_iff_not] at hbA
    have hca : a < 0 ∨ (0 ≤ a ∧ 7 < a) ∨ ((0 ≤ a ∧ a ≤ 7) ∧ b < 0) ∨ ((0 ≤ a ∧ a ≤ 7) ∧ (0 ≤ b ∧ 7 < b)) ∨ ((0 ≤ a ∧ a ≤ 7) ∧ (0 ≤ b ∧ b ≤ 7) ∧ c < 0) ∨ ((0 ≤ a ∧ a ≤ 7) ∧ (0 ≤ b ∧ b ≤ 7) ∧ (0 ≤ c ∧ 7 < c)) := by omega
    clear hbA
    rcases hca with h | ⟨h, h'⟩ | ⟨⟨h, h'⟩, h2⟩ | ⟨⟨h, h'⟩, ⟨h2, h3⟩⟩ | ⟨⟨h, h'⟩, ⟨h2, h3⟩, h4⟩ | ⟨⟨h, h'⟩, ⟨h2, h3⟩, ⟨h4, h5⟩⟩
    all_goals
      go_enter Try.func19, Try.ntmps19
      go_wp2
      go_ret
      exact ⟨rfl, HF.out⟩
  | true =>
    have HA := Lib.hid hbA
    rw [belowB_three, decide_eq_true_eq] at hbA
    obtain ⟨⟨ha1, ha2⟩, ⟨hb1, hb2⟩, ⟨hc1, hc2⟩⟩ := hbA
    have ha3 : ¬ 7 < a := by omega
    have hb3 : ¬ 7 < b := by omega
    have hc3 : ¬ 7 < c := by omega
    rcases op_cases op with rfl | rfl | rfl | hop | hop | hop | hop | hop | hop | hop | hop | hop | hop | hop | hop | hop | hop | hop | hop
    · rw [insB_1 HA.out]
      go_enter Try.func19, Try.ntmps19
      go_wp2
      go_ret
      exact ⟨rfl, HF.out⟩
    · rw [insB_13 HA.out]
      unfold arrB
      rw [HL.out]
      by_cases h1 : 1 ≤ n
      · by_cases h2 : n ≤ nc
        · obtain ⟨bb, off, rfl, hc⟩ := HC.out h1 h2
          clear HC
          rw [decide_eq_true (p := 1 ≤ n ∧ n ≤ (nc : Int)) (by omega), Bool.true_and]
          have d1 : decide (1 ≤ n) = true := decide_eq_true h1
          have d2 : decide (n ≤ (nc : Int)) = true := decide_eq_true h2
          generalize clsA S n = A at *
          go_enter Try.func19, Try.ntmps19
          go_wp2_with (go_quiet (fail))
          refine bodyPost_ret (v := .bool (A != 0)) (by simp [results, Try.results19, go_sem]) rfl ?_
          exact ⟨by by_cases hA : A = 0 <;> simp [hA], fr_drewN2 HF.out _⟩
        · clear HC
          rw [decide_eq_false (p := 1 ≤ n ∧ n ≤ (nc : Int)) (by omega), Bool.false_and]
          have d1 : decide (1 ≤ n) = true := decide_eq_true h1
          have d2 : decide (n ≤ (nc : Int)) = false := decide_eq_false h2
          go_enter Try.func19, Try.ntmps19
          go_wp2_with (go_quiet (fail))
          go_ret
          exact ⟨rfl, fr_drewN2 HF.out _⟩
      · clear HC
        rw [decide_eq_false (p := 1 ≤ n ∧ n ≤ (nc : Int)) (by omega), Bool.false_and]
        have d1 : decide (1 ≤ n) = false := decide_eq_false h1
        go_enter Try.func19, Try.ntmps19
        go_wp2_with (go_quiet (fail))
        go_ret
        exact ⟨rfl, fr_drewN2 HF.out _⟩
    · rw [insB_12 HA.out]
      unfold arrB
      rw [HL.out]
      by_cases h1 : 1 ≤ n
      · by_cases h2 : n ≤ nc
        · obtain ⟨bb, off, rfl, hc⟩ := HC.out h1 h2
          clear HC
          rw [decide_eq_true (p := 1 ≤ n ∧ n ≤ (nc : Int)) (by omega), Bool.true_and]
          have d1 : decide (1 ≤ n) = true := decide_eq_true h1
          have d2 : decide (n ≤ (nc : Int)) = true := decide_eq_true h2
          generalize clsA S n = A at *
          go_enter Try.func19, Try.ntmps19
          go_wp2_with (go_quiet (fail))
          refine bodyPost_ret (v := .bool (A == 0)) (by simp [results, Try.results19, go_sem]; try rfl) rfl ?_
          exact ⟨by by_cases hA : A = 0 <;> simp [hA], fr_drewN2 HF.out _⟩
        · clear HC
          rw [decide_eq_false (p := 1 ≤ n ∧ n ≤ (nc : Int)) (by omega), Bool.false_and]
          have d1 : decide (1 ≤ n) = true := decide_eq_true h1
          have d2 : decide (n ≤ (nc : Int)) = false := decide_eq_false h2
          go_enter Try.func19, Try.ntmps19
          go_wp2_with (go_quiet (fail))
          go_ret
          exact ⟨rfl, fr_drewN2 HF.out _⟩
      · clear HC
        rw [decide_eq_false (p := 1 ≤ n ∧ n ≤ (nc : Int)) (by omega), Bool.false_and]
        have d1 : decide (1 ≤ n) = false := decide_eq_false h1
        go_enter Try.func19, Try.ntmps19
        go_wp2_with (go_quiet (fail))
        go_ret
        exact ⟨rfl, fr_drewN2 HF.out _⟩
    · rw [insB_j HA.out (by omega)]
      have HB := Lib.hid (fun w => r_below n len w)
      try subst hop
      generalize belowB len [n] = bb at *
      go_enter Try.func19, Try.ntmps19
      go_wp2_with fail
      refine (HB.out _).mono ?_
      rintro e w' ⟨rfl, rfl⟩
      go_wp2
      go_ret
      exact ⟨rfl, HF.out⟩
    · rw [insB_j HA.out (by omega)]
      have HB := Lib.hid (fun w => r_below n len w)
      try subst hop
      generalize belowB len [n] = bb at *
      go_enter Try.func19, Try.ntmps19
      go_wp2_with fail
      refine (HB.out _).mono ?_
      rintro e w' ⟨rfl, rfl⟩
      go_wp2
      go_ret
      exact ⟨rfl, HF.out⟩
    · rw [insB_f HA.out (by omega)]
      have HB := Lib.hid (fun w => r_below n 64 w)
      try subst hop
      generalize belowB 64 [n] = bb at *
      go_enter Try.func19, Try.ntmps19
      go_wp2_with fail
      refine (HB.out _).mono ?_
      rintro e w' ⟨rfl, rfl⟩
      go_wp2
      go_ret
      exact ⟨rfl, HF.out⟩
    · rw [insB_f HA.out (by omega)]
      have HB := Lib.hid (fun w => r_below n 64 w)
      try subst hop
      generalize belowB 64 [n] = bb at *
      go_enter Try.func19, Try.ntmps19
      go_wp2_with fail
      refine (HB.out _).mono ?_
      rintro e w' ⟨rfl, rfl⟩
      go_wp2
      go_ret
      exact ⟨rfl, HF.out⟩
    · rw [insB_f HA.out (by omega)]
      have HB := Lib.hid (fun w => r_below n 64 w)
      try subst hop
      generalize belowB 64 [n] = bb at *
      go_enter Try.func19, Try.ntmps19
      go_wp2_with fail
      refine (HB.out _).mono ?_
      rintro e w' ⟨rfl, rfl⟩
      go_wp2
      go_ret
      exact ⟨rfl, HF.out⟩
    · rw [insB_f HA.out (by omega)]
      have HB := Lib.hid (fun w => r_below n 64 w)
      try subst hop
      generalize belowB 64 [n] = bb at *
      go_enter Try.func19, Try.ntmps19
      go_wp2_with fail
      refine (HB.out _).mono ?_
      rintro e w' ⟨rfl, rfl⟩
      go_wp2
      go_ret
      exact ⟨rfl, HF.out⟩
    · rw [insB_f HA.out (by omega)]
      have HB := Lib.hid (fun w => r_below n 64 w)
      try subst hop
      generalize belowB 64 [n] = bb at *
      go_enter Try.func19, Try.ntmps19
      go_wp2_with fail
      refine (HB.out _).mono ?_
      rintro e w' ⟨rfl, rfl⟩
      go_wp2
      go_ret
      exact ⟨rfl, HF.out⟩
    · rw [insB_f HA.out (by omega)]
      have HB := Lib.hid (fun w => r_below n 64 w)
      try subst hop
      generalize belowB 64 [n] = bb at *
      go_enter Try.func19, Try.ntmps19
      go_wp2_with fail
      refine (HB.out _).mono ?_
      rintro e w' ⟨rfl, rfl⟩
      go_wp2
      go_ret
      exact ⟨rfl, HF.out⟩
    · rw [insB_f HA.out (by omega)]
      have HB := Lib.hid (fun w => r_below n 64 w)
      try subst hop
      generalize belowB 64 [n] = bb at *
      go_enter Try.func19, Try.ntmps19
      go_wp2_with fail
      refine (HB.out _).mono ?_
      rintro e w' ⟨rfl, rfl⟩
      go_wp2
      go_ret
      exact ⟨rfl, HF.out⟩
    · rw [insB_r HA.out (by omega)]
      have HB := Lib.hid (fun w => r_below n refs w)
      try subst hop
      generalize belowB refs [n] = bb at *
      go_enter Try.func19, Try.ntmps19
      go_wp2_with fail
      refine (HB.out _).mono ?_
      rintro e w' ⟨rfl, rfl⟩
      go_wp2
      go_ret
      exact ⟨rfl, HF.out⟩
    · rw [insB_r HA.out (by omega)]
      have HB := Lib.hid (fun w => r_below n refs w)
      try subst hop
      generalize belowB refs [n] = bb at *
      go_enter Try.func19, Try.ntmps19
      go_wp2_with fail
      refine (HB.out _).mono ?_
      rintro e w' ⟨rfl, rfl⟩
      go_wp2
      go_ret
      exact ⟨rfl, HF.out⟩
    · rw [insB_i HA.out (by omega)]
      have HB := Lib.hid (fun w => r_below n ints w)
      try subst hop
      generalize belowB ints [n] = bb at *
      go_enter Try.func19, Try.ntmps19
      go_wp2_with fail
      refine (HB.out _).mono ?_
      rintro e w' ⟨rfl, rfl⟩
      go_wp2
      go_ret
      exact ⟨rfl, HF.out⟩
    · rw [insB_i HA.out (by omega)]
      have HB := Lib.hid (fun w => r_below n ints w)
      try subst hop
      generalize belowB ints [n] = bb at *
      go_enter Try.func19, Try.ntmps19
      go_wp2_with fail
      refine (HB.out _).mono ?_
      rintro e w' ⟨rfl, rfl⟩
      go_wp2
      go_ret
      exact ⟨rfl, HF.out⟩
    · rw [insB_c HA.out (by omega)]
      have HB := Lib.hid (fun w => r_below n (nf : Int) w)
      try subst hop
      generalize belowB (nf : Int) [n] = bb at *
      go_enter Try.func19, Try.ntmps19
      go_wp2_with fail
      refine (HB.out _).mono ?_
      rintro e w' ⟨rfl, rfl⟩
      go_wp2
      go_ret
      exact ⟨rfl, HF.out⟩
    · rw [insB_c HA.out (by omega)]
      have HB := Lib.hid (fun w => r_below n (nf : Int) w)
      try subst hop
      generalize belowB (nf : Int) [n] = bb at *
      go_enter Try.func19, Try.ntmps19
      go_wp2_with fail
      refine (HB.out _).mono ?_
      rintro e w' ⟨rfl, rfl⟩
      go_wp2
      go_ret
      exact ⟨rfl, HF.out⟩
    · have ho : op < 0 ∨ (0 ≤ op ∧ 40 < op) ∨ (0 ≤ op ∧ op ≤ 40) := by omega
      have hop2 := hop
      obtain ⟨h01, h02, h03, h04, h05, h06, h07, h08, h09, h10, h11, h12, h13, h14, h15, h16, h17, h18⟩ := hop
      have HOP := Lib.hid hop2
      clear hop2
      rcases ho with ho | ⟨ho, ho'⟩ | ⟨ho, ho'⟩
      · rw [insB_x HA.out (by omega)]
        go_enter Try.func19, Try.ntmps19
        go_wp2
        go_ret
        exact ⟨rfl, HF.out⟩
      · rw [insB_x HA.out (by omega)]
        go_enter Try.func19, Try.ntmps19
        go_wp2
        go_ret
        exact ⟨rfl, HF.out⟩
      · rw [insB_e HA.out (by rw [belowB_one]; exact decide_eq_true (by omega)) HOP.out, belowB_one]
        by_cases h0 : n = 0
        · subst h0
          go_enter Try.func19, Try.ntmps19
          go_wp2
          go_ret
          exact ⟨rfl, HF.out⟩
        · rw [decide_eq_false (by omega)]
          have hnb : (n == 0) = false := by simp [h0]
          go_enter Try.func19, Try.ntmps19
          go_wp2
          go_ret
          exact ⟨by first | rfl | simp [h0], HF.out⟩
end Go.Proofs.Ytobghplhoeangaa
