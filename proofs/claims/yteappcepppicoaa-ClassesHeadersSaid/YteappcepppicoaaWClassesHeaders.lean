/- ClassesHeaders, the walk: a header says its class and its length again; no word says two things. -/
import Derived.Test.YteappcepppicoaaAwake3
namespace Go.Proofs.Yteappcepppicoaa
open Go.RowKit Go.HK
set_option maxRecDepth 100000

theorem parts_hdr (cl len : Int) : parts (hdr cl len) = .tuple #[.int .i64 (cl % 16777216), .int .i64 (len % 4294967296), .bool true] := by
  obtain ⟨h1, h2⟩ := hdr_parts cl len
  have h3 : pC (hdr cl len) = cl % 16777216 := h1
  have h4 : pL (hdr cl len) = len % 4294967296 := h2
  have h5 : hdr (cl % 16777216) (len % 4294967296) = hdr cl len := by unfold hdr; omega
  have h6 : pB (hdr cl len) = true := by unfold pB; rw [h3, h4, h5]; simp
  rw [parts, if_pos h6, h3, h4]

set_option maxHeartbeats 1600000 in
theorem walk_ClassesHeaders (a0 : Int) (a1 : Int) (a2 : Int) (w : World) (w0 : (Lit.int .i64 a0).wf = true) (w1 : (Lit.int .i64 a1).wf = true) (w2 : (Lit.int .i64 a2).wf = true) :
    Calls Try.prog 3 #[.int .i64 a0, .int .i64 a1, .int .i64 a2] w fun e w' => e = .returned (.bool true) ∧ Below w.heap.size w w' := by
  have hr2 := i64_of_wf w2
  have hb := hdr_bd a0 a1
  have hh : I64 (hdr a0 a1) := ⟨by omega, by omega⟩
  have hc1 := fun w => c_Header a0 a1 w
  have hc2 := fun w => c_Parts (hdr a0 a1) w hh
  rw [parts_hdr] at hc2
  have hc3 := fun w => c_Parts a2 w hr2
  have hc4 := fun w => r_Parts a2 w hr2
  have hc5 := fun w => r_Header a0 a1 w
  have ha : bits .and .i64 a0 16777215 = a0 % 16777216 := and_24 _
  have hbm : bits .and .i64 a1 4294967295 = a1 % 4294967296 := and_32 _
  have hc6 := fun w => c_Header (pC a2) (pL a2) w
  have hpd : parts a2 = if pB a2 then .tuple #[.int .i64 (pC a2), .int .i64 (pL a2), .bool true] else .tuple #[.int .i64 0, .int .i64 0, .bool false] := rfl
  have hqd : pB a2 = true → hdr (pC a2) (pL a2) = a2 := fun h => of_decide_eq_true h
  rw [hpd] at hc3 hc4
  clear w0 w1 w2 hr2 hb hh hpd
  generalize hdr a0 a1 = h at *
  generalize a0 % 16777216 = x at *
  generalize a1 % 4294967296 = y at *
  generalize pC a2 = pc at *
  generalize pL a2 = pl at *
  have e1 : (h != h) = false := by simp
  have e2 : (x != x) = false := by simp
  have e3 : (y != y) = false := by simp
  cases hp : pB a2 with
  | true =>
    rw [hp, if_pos rfl] at hc3 hc4
    have hq := hqd hp
    rw [hq] at hc6
    have e4 : (pc != pc) = false := by simp
    have e5 : (pl != pl) = false := by simp
    have e6 : (a2 == a2) = true := by simp
    have H1 := Lib.hid hc1
    have H2 := Lib.hid hc2
    have H3 := Lib.hid hc3
    have H4 := Lib.hid hc4
    have H5 := Lib.hid hc5
    have H6 := Lib.hid hc6
    clear hc1 hc2 hc3 hc4 hc5 hc6 hq hqd hp
    go_enter Try.func3, Try.ntmps3
    go_wp2_with fail
    refine (awake_true w).mono ?_
    rintro e wa ⟨rfl, f0⟩
    go_wp2_with fail
    refine (H1.out _).mono ?_
    rintro e w' ⟨rfl, rfl⟩
    go_wp2_with fail
    refine (H2.out _).mono ?_
    rintro e w' ⟨rfl, rfl⟩
    go_wp2_with fail
    refine (H3.out _).mono ?_
    rintro e w' ⟨rfl, rfl⟩
    go_wp2_with fail
    refine (H4.out _).mono ?_
    rintro e w' ⟨rfl, rfl⟩
    go_wp2_with fail
    refine (H5.out _).mono ?_
    rintro e w' ⟨rfl, rfl⟩
    go_wp2_with fail
    refine (H6.out _).mono ?_
    rintro e w' ⟨rfl, rfl⟩
    go_wp2_with fail
    go_ret
    exact ⟨by simp, f0.below (Nat.le_refl _) (fun _ _ h => h)⟩
  | false =>
    rw [hp, if_neg (by simp)] at hc3 hc4
    have H1 := Lib.hid hc1
    have H2 := Lib.hid hc2
    have H3 := Lib.hid hc3
    have H4 := Lib.hid hc4
    have H5 := Lib.hid hc5
    clear hc1 hc2 hc3 hc4 hc5 hc6 hqd hp
    go_enter Try.func3, Try.ntmps3
    go_wp2_with fail
    refine (awake_true w).mono ?_
    rintro e wa ⟨rfl, f0⟩
    go_wp2_with fail
    refine (H1.out _).mono ?_
    rintro e w' ⟨rfl, rfl⟩
    go_wp2_with fail
    refine (H2.out _).mono ?_
    rintro e w' ⟨rfl, rfl⟩
    go_wp2_with fail
    refine (H3.out _).mono ?_
    rintro e w' ⟨rfl, rfl⟩
    go_wp2_with fail
    refine (H4.out _).mono ?_
    rintro e w' ⟨rfl, rfl⟩
    go_wp2_with fail
    refine (H5.out _).mono ?_
    rintro e w' ⟨rfl, rfl⟩
    go_wp2_with fail
    go_ret
    exact ⟨by simp, f0.below (Nat.le_refl _) (fun _ _ h => h)⟩
end Go.Proofs.Yteappcepppicoaa
