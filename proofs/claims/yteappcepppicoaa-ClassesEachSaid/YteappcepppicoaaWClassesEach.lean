/- ClassesEach, the walk: classes may be just if each one may, and there are not too many. -/
import Derived.Test.YteappcepppicoaaAwake3
namespace Go.Proofs.Yteappcepppicoaa
open Go.RowKit Go.HK
set_option maxRecDepth 100000

theorem rdS_nil {w : World} : RdS 3 Qcl w none 0 [] := ⟨rfl, by unfold maxLen; omega, fun h => by omega⟩
theorem rdS_one {w : World} {g : Nat} {T : TypeId} (c : Cls) (hr : I64 c.r ∧ I64 c.w ∧ I64 c.a) (h : Blk w g T [.int .i64 c.r, .int .i64 c.w, .int .i64 c.a]) : RdS 3 Qcl w (some ⟨g, 0, none⟩) 1 [c] := by
  refine ⟨rfl, by unfold maxLen; omega, fun _ => ⟨g, 0, rfl, h.lt, fun i y hy => ?_⟩⟩
  have hi := lt_of_get hy
  match i, hi, hy with
  | 0, _, hy =>
    simp at hy; subst hy
    exact ⟨_, rfl, ⟨rfl, hr⟩, fun j u hu => (h.cell _).trans (by simp; exact hu)⟩
theorem chk_one (c : Cls) : chkE [c] = if mayB c = true then 0 else 12 := by simp [chkE]
def allB (S : List Cls) (k : Nat) : Bool := decide (S.length ≤ 16) && (S.take k).all mayB
theorem allB_step {S : List Cls} {k : Nat} {c : Cls} (h : S[k]? = some c) : allB S (k + 1) = (allB S k && mayB c) := by
  have hk := lt_of_get h
  have e : S.take (k + 1) = S.take k ++ [c] := by
    rw [List.take_add_one, h]; rfl
  unfold allB
  rw [e, List.all_append]
  simp [Bool.and_assoc]
theorem allB_end {S : List Cls} {k : Nat} (h : S.length ≤ k) : allB S k = decide (chkE S = 0) := by
  unfold allB chkE
  rw [List.take_of_length_le h]
  by_cases h1 : S.length ≤ 16 ∧ S.all mayB = true
  · rw [if_pos h1]; simp [h1.1, h1.2]
  · rw [if_neg h1]
    rw [Bool.eq_iff_iff]
    simp only [Bool.and_eq_true, decide_eq_true_eq]
    constructor
    · exact fun h => absurd h h1
    · intro h; simp at h

set_option maxHeartbeats 1600000 in
theorem walk_ClassesEach (a0 : Option Addr) (n0 c0 : Nat) (S0 : List Cls) (w : World) (w0 : RdS 3 Qcl w a0 n0 S0) :
    Calls Try.prog 5 #[.slice a0 n0 c0] w fun e w' => e = .returned (.bool true) ∧ Below w.heap.size w w' := by
  have hn := w0.le
  unfold maxLen at hn
  have hl := w0.hlen
  have HL := Lib.hid hl
  have W0 := Lib.hid w0
  have hck := fun w' (f : Fr (fun _ => False) w w') => c_Check a0 n0 c0 S0 w' (w0.fr f)
  have HC := Lib.hid hck
  have h16 : allB S0 0 = decide ((n0 : Int) ≤ 16) := by
    unfold allB; rw [hl]; simp
    omega
  have H16 := Lib.hid h16
  clear hl w0 hck h16
  go_enter Try.func5, Try.ntmps5
  go_wp2_with fail
  refine (awake_true w).mono ?_
  rintro e wa ⟨rfl, f0⟩
  go_wp2_with fail
  go_loopw [4, 5] (fun al i wr => ∃ (j : Nat), i = .int .i64 j ∧ j ≤ n0 ∧ al = .bool (allB S0 j) ∧ Fr (fun _ => False) w wr) (fun _ i _ => n0 - (intOf i).toNat)
  case atStart => exact ⟨0, rfl, by omega, by rw [H16.out], f0⟩
  case round =>
    obtain ⟨j, rfl, hj, rfl, G⟩ := hrel
    by_cases hlt : j < n0
    · have hS : S0[j]? = some (S0[j]'(by have := HL.out; omega)) := List.getElem?_eq_getElem _
      generalize (S0[j]'(by have := HL.out; omega)) = c at hS
      obtain ⟨b, off, rfl, hb, c0, c1, c2, r0, r1, r2⟩ := (W0.out.fr G).cls hS
      have hst := allB_step hS
      cases hal : allB S0 j with
      | true =>
        rw [hal, Bool.true_and] at hst
        have hone := fun (wx : World) (g : Nat) (T : TypeId) h => c_Check (some ⟨g, 0, none⟩) 1 1 [c] wx (rdS_one (T := T) c ⟨r0, r1, r2⟩ h)
        rw [chk_one] at hone
        have HO := Lib.hid hone
        have HST := Lib.hid hst
        clear hone hst hS hal
        obtain ⟨r, wd, ar⟩ := c
        simp only at *
        have hblk := Blk.new wr 37 [.int .i64 r, .int .i64 wd, .int .i64 ar]
        have HB := Lib.hid hblk
        clear hblk
        go_wp2_with fail
        refine (HO.out _ _ _ HB.out).mono ?_
        rintro e wd' ⟨rfl, f3⟩
        have G' := (G.alloc _).trans f3
        clear f3 HO HB
        cases hm : mayB ⟨r, wd, ar⟩ with
        | true =>
          rw [hm] at HST
          clear hm
          go_wp2
          go_roundw
          case rel => exact ⟨j + 1, by go_num, by omega, by rw [HST.out], G'⟩
          case measure => simp [intOf]; omega
        | false =>
          rw [hm] at HST
          clear hm
          go_wp2
          go_roundw
          case rel => exact ⟨j + 1, by go_num, by omega, by rw [HST.out], G'⟩
          case measure => simp [intOf]; omega
      | false =>
        rw [hal, Bool.false_and] at hst
        have HST := Lib.hid hst
        clear hst hS hal
        obtain ⟨r, wd, ar⟩ := c
        simp only at *
        go_wp2
        go_roundw
        case rel => exact ⟨j + 1, by go_num, by omega, by rw [HST.out], G⟩
        case measure => simp [intOf]; omega
    · have hal := allB_end (S := S0) (k := j) (by have := HL.out; omega)
      rw [hal]
      have hcc := HC.out _ G
      have HCC := Lib.hid hcc
      have hnil := fun wx => c_Check none 0 0 [] wx rdS_nil
      have hnz : chkE [] = 0 := by simp [chkE]
      rw [hnz] at hnil
      have HN := Lib.hid hnil
      clear hal hcc hnil hnz
      generalize chkE S0 = ce at *
      go_wp2_with fail
      refine HCC.out.mono ?_
      rintro e wd ⟨rfl, f3⟩
      have G' := G.trans f3
      clear f3
      by_cases hc : ce = 0
      · have hcb : (ce == 0) = true := by simpa using hc
        have hcd : decide (ce = 0) = true := by simpa using hc
        rw [hcd]
        clear hc hcd
        go_wp2_with fail
        refine (HN.out _).mono ?_
        rintro e we ⟨rfl, f4⟩
        go_wp2
        go_ret
        exact ⟨rfl, (G'.trans f4).below (Nat.le_refl _) (fun _ _ h => h)⟩
      · have hcb : (ce == 0) = false := by simpa using hc
        have hcd : decide (ce = 0) = false := by simpa using hc
        rw [hcd]
        clear hc hcd
        go_wp2_with fail
        refine (HN.out _).mono ?_
        rintro e we ⟨rfl, f4⟩
        go_wp2
        go_ret
        exact ⟨rfl, (G'.trans f4).below (Nat.le_refl _) (fun _ _ h => h)⟩
end Go.Proofs.Yteappcepppicoaa
