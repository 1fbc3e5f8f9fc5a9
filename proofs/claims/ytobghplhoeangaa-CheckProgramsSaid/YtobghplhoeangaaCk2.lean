/- Package check: which instructions may be (the program's own). -/
import Derived.Test.YtobghplhoeangaaCk1
namespace Go.Proofs.Ytobghplhoeangaa
open Go.RowKit Go.HK
set_option maxRecDepth 100000

def clsA (S : List Cls) (n : Int) : Int := (S.getD (n.toNat - 1) zCls).a
def arrB (S : List Cls) (n : Int) : Bool := decide (1 ≤ n ∧ n ≤ S.length) && decide (clsA S n ≠ 0)
def isFld (op : Int) : Bool := decide (op = 15 ∨ op = 16 ∨ op = 17 ∨ op = 18 ∨ op = 23 ∨ op = 24 ∨ op = 25)
def insB (S : List Cls) (len refs ints nf : Int) (x : Ins) : Bool :=
  if belowB 8 [x.a, x.b, x.c] = false then false
  else if belowB 41 [x.op] = false then false
  else if x.op = 1 then true
  else if x.op = 13 then arrB S x.n
  else if x.op = 12 then decide (1 ≤ x.n ∧ x.n ≤ S.length) && !(arrB S x.n)
  else if x.op = 6 ∨ x.op = 7 then belowB len [x.n]
  else if isFld x.op = true then belowB 64 [x.n]
  else if x.op = 26 ∨ x.op = 27 then belowB refs [x.n]
  else if x.op = 28 ∨ x.op = 29 then belowB ints [x.n]
  else if x.op = 30 ∨ x.op = 32 then belowB nf [x.n]
  else belowB 1 [x.n]

def pCells (ac : Option Addr) (nc cc : Nat) (af : Option Addr) (nf cf : Nat) (refs ints : Int) : List Value := [.slice ac nc cc, .slice af nf cf, .int .i64 refs, .int .i64 ints]

/-- the closure `array` -/
theorem c_array (bp bi : Nat) (ac : Option Addr) (nc cc : Nat) (af : Option Addr) (nf cf : Nat) (refs ints : Int) (S : List Cls) (x : Ins) (w : World) (hp : Blk w bp 25 (pCells ac nc cc af nf cf refs ints)) (hi : Blk w bi 37 x.cells)
    (hS : RdS 3 Qcl w ac nc S) (hr : x.rng) (hn1 : nc ≤ 16) :
    Calls Try.prog 32 #[.pointer (some ⟨bp, 0, none⟩), .pointer (some ⟨bi, 0, none⟩)] w fun e w' => e = .returned (.bool (arrB S x.n)) ∧ Fr (fun _ => False) w w' := by
  have hp0 : w.cell? ⟨bp, 0, none⟩ = some (.slice ac nc cc) := hp.cell 0
  have hi4 : w.cell? ⟨bi, 4, none⟩ = some (.int .i64 x.n) := hi.cell 4
  have hl := hS.hlen
  obtain ⟨_, _, _, _, hr1, hr2⟩ := hr
  have F := (Fr.refl (fun _ => False) w).alloc (.cells #[.int .i64 x.n] 2)
  have hq0 := F.cell hp0 (fun h => h)
  have hq4 := F.cell hi4 (fun h => h)
  have hcl : 1 ≤ x.n → x.n ≤ S.length → ∃ b off, ac = some ⟨b, off, none⟩ ∧ (w.alloc (.cells #[.int .i64 x.n] 2)).cell? ⟨b, off + (x.n.toNat - 1) * 3 + 2, none⟩ = some (.int .i64 (clsA S x.n)) := fun h1 h2 => by
    have hlt : x.n.toNat - 1 < S.length := by omega
    obtain ⟨b, off, e, _, _, _, h3, _⟩ := hS.cls (List.getElem?_eq_getElem hlt)
    refine ⟨b, off, e, ?_⟩
    have := F.cell h3 (fun h => h)
    rw [this]
    unfold clsA
    rw [List.getD_eq_getElem?_getD, List.getElem?_eq_getElem hlt]
    rfl
  have hbw := below1 ((nc : Int) + 1) x.n w w.heap.size rfl
  unfold arrB
  rw [hl] at hcl ⊢
  generalize clsA S x.n = A at *
  have HF := Lib.hid F
  have HC := Lib.hid hcl
  have HB := Lib.hid hbw
  clear hp hi hS hl F hcl hbw
  generalize x.n = n at *
  have HB := Lib.hid (HB.out (by unfold I64; omega) ⟨hr1, hr2⟩)
  rw [belowB_one] at HB
  by_cases h1 : 1 ≤ n
  · by_cases h2 : n ≤ nc
    · obtain ⟨b, off, rfl, hc⟩ := HC.out h1 h2
      rw [decide_eq_true (p := 0 ≤ n ∧ n < (nc : Int) + 1) (by omega)] at HB
      rw [decide_eq_true (p := 1 ≤ n ∧ n ≤ (nc : Int)) (by omega), Bool.true_and]
      clear HC
      go_enter Try.func32, Try.ntmps32
      go_wp2_with fail
      refine HB.out.mono ?_
      rintro e w' ⟨rfl, rfl⟩
      go_wp2
      go_ret
      exact ⟨by by_cases hA : A = 0 <;> simp [hA], HF.out⟩
    · rw [decide_eq_false (p := 0 ≤ n ∧ n < (nc : Int) + 1) (by omega)] at HB
      rw [decide_eq_false (p := 1 ≤ n ∧ n ≤ (nc : Int)) (by omega), Bool.false_and]
      clear HC
      go_enter Try.func32, Try.ntmps32
      go_wp2_with fail
      refine HB.out.mono ?_
      rintro e w' ⟨rfl, rfl⟩
      go_wp2
      go_ret
      exact ⟨rfl, HF.out⟩
  · rw [decide_eq_false (p := 1 ≤ n ∧ n ≤ (nc : Int)) (by omega), Bool.false_and]
    clear HC
    by_cases h2 : 0 ≤ n
    · rw [decide_eq_true (p := 0 ≤ n ∧ n < (nc : Int) + 1) (by omega)] at HB
      go_enter Try.func32, Try.ntmps32
      go_wp2_with fail
      refine HB.out.mono ?_
      rintro e w' ⟨rfl, rfl⟩
      go_wp2
      go_ret
      exact ⟨rfl, HF.out⟩
    · rw [decide_eq_false (p := 0 ≤ n ∧ n < (nc : Int) + 1) (by omega)] at HB
      go_enter Try.func32, Try.ntmps32
      go_wp2_with fail
      refine HB.out.mono ?_
      rintro e w' ⟨rfl, rfl⟩
      go_wp2
      go_ret
      exact ⟨rfl, HF.out⟩

section
variable {S : List Cls} {len refs ints nf : Int} {op a b c n : Int}
theorem insB_b1 (h : belowB 8 [a, b, c] = false) : insB S len refs ints nf ⟨op, a, b, c, n⟩ = false := by simp [insB, h]
theorem insB_b2 (h : belowB 8 [a, b, c] = true) (h2 : belowB 41 [op] = false) : insB S len refs ints nf ⟨op, a, b, c, n⟩ = false := by simp [insB, h, h2]
theorem insB_1 (h : belowB 8 [a, b, c] = true) : insB S len refs ints nf ⟨1, a, b, c, n⟩ = true := by simp [insB, h, belowB_one]
theorem insB_13 (h : belowB 8 [a, b, c] = true) : insB S len refs ints nf ⟨13, a, b, c, n⟩ = arrB S n := by simp [insB, h, belowB_one]
theorem insB_12 (h : belowB 8 [a, b, c] = true) : insB S len refs ints nf ⟨12, a, b, c, n⟩ = (decide (1 ≤ n ∧ n ≤ S.length) && !(arrB S n)) := by simp [insB, h, belowB_one]
theorem insB_j (h : belowB 8 [a, b, c] = true) (ho : op = 6 ∨ op = 7) : insB S len refs ints nf ⟨op, a, b, c, n⟩ = belowB len [n] := by rcases ho with rfl | rfl <;> simp [insB, h, belowB_one]
theorem insB_f (h : belowB 8 [a, b, c] = true) (ho : op = 15 ∨ op = 16 ∨ op = 17 ∨ op = 18 ∨ op = 23 ∨ op = 24 ∨ op = 25) : insB S len refs ints nf ⟨op, a, b, c, n⟩ = belowB 64 [n] := by
  rcases ho with rfl | rfl | rfl | rfl | rfl | rfl | rfl <;> simp [insB, h, belowB_one, isFld]
theorem insB_r (h : belowB 8 [a, b, c] = true) (ho : op = 26 ∨ op = 27) : insB S len refs ints nf ⟨op, a, b, c, n⟩ = belowB refs [n] := by rcases ho with rfl | rfl <;> simp [insB, h, belowB_one, isFld]
theorem insB_i (h : belowB 8 [a, b, c] = true) (ho : op = 28 ∨ op = 29) : insB S len refs ints nf ⟨op, a, b, c, n⟩ = belowB ints [n] := by rcases ho with rfl | rfl <;> simp [insB, h, belowB_one, isFld]
theorem insB_c (h : belowB 8 [a, b, c] = true) (ho : op = 30 ∨ op = 32) : insB S len refs ints nf ⟨op, a, b, c, n⟩ = belowB nf [n] := by rcases ho with rfl | rfl <;> simp [insB, h, belowB_one, isFld]
def isElse (op : Int) : Prop := op ≠ 1 ∧ op ≠ 13 ∧ op ≠ 12 ∧ op ≠ 6 ∧ op ≠ 7 ∧ op ≠ 15 ∧ op ≠ 16 ∧ op ≠ 17 ∧ op ≠ 18 ∧ op ≠ 23 ∧ op ≠ 24 ∧ op ≠ 25 ∧ op ≠ 26 ∧ op ≠ 27 ∧ op ≠ 28 ∧ op ≠ 29 ∧ op ≠ 30 ∧ op ≠ 32
theorem insB_e (h : belowB 8 [a, b, c] = true) (h2 : belowB 41 [op] = true) (ho : isElse op) : insB S len refs ints nf ⟨op, a, b, c, n⟩ = belowB 1 [n] := by
  obtain ⟨h01, h02, h03, h04, h05, h06, h07, h08, h09, h10, h11, h12, h13, h14, h15, h16, h17, h18⟩ := ho
  simp [insB, h, h2, isFld, h01, h02, h03, h04, h05, h06, h07, h08, h09, h10, h11, h12, h13, h14, h15, h16, h17, h18]
theorem op_cases (op : Int) : op = 1 ∨ op = 13 ∨ op = 12 ∨ op = 6 ∨ op = 7 ∨ op = 15 ∨ op = 16 ∨ op = 17 ∨ op = 18 ∨ op = 23 ∨ op = 24 ∨ op = 25 ∨ op = 26 ∨ op = 27 ∨ op = 28 ∨ op = 29 ∨ op = 30 ∨ op = 32 ∨ isElse op := by unfold isElse; omega
end

set_option maxHeartbeats 4000000 in
theorem c_Instr (ac : Option Addr) (nc cc : Nat) (af : Option Addr) (nf cf : Nat) (refs ints len : Int) (S : List Cls) (x : Ins) (w : World)
    (hS : RdS 3 Qcl w ac nc S) (hr : x.rng) (hn1 : nc ≤ 16) (hnf : nf ≤ 1000000) (hri : I64 refs ∧ I64 ints ∧ I64 len) :
    Calls Try.prog 16 #[.agg (pCells ac nc cc af nf cf refs ints).toArray, .int .i64 len, x.val] w fun e w' => e = .returned (.bool (insB S len refs ints nf x)) ∧ Fr (fun _ => False) w w' := by
  obtain ⟨op, a, b, c, n⟩ := x
  obtain ⟨r1, r2, r3, r4, r5⟩ := hr
  unfold Ins.val pCells
  simp only at *
  have hcl0 := fun w' (f : Fr (fun _ => False) w w') (h1 : Blk w' w.heap.size 25 (pCells ac nc cc af nf cf refs ints)) (h2 : Blk w' (w.heap.size + 1) 37 (Ins.cells ⟨op, a, b, c, n⟩)) => c_array w.heap.size (w.heap.size + 1) ac nc cc af nf cf refs ints S ⟨op, a, b, c, n⟩ w' h1 h2 (hS.fr f) ⟨r1, r2, r3, r4, r5⟩ hn1
  have hl := hS.hlen
  have F1 : Fr (fun _ => False) w ((w.alloc (.cells #[.slice ac nc cc, .slice af nf cf, .int .i64 refs, .int .i64 ints] 25)).alloc (.cells #[.int .i64 op, .int .i64 a, .int .i64 b, .int .i64 c, .int .i64 n] 37)) := ((Fr.refl _ _).alloc _).alloc _
  have B1 : Blk ((w.alloc (.cells #[.slice ac nc cc, .slice af nf cf, .int .i64 refs, .int .i64 ints] 25)).alloc (.cells #[.int .i64 op, .int .i64 a, .int .i64 b, .int .i64 c, .int .i64 n] 37)) w.heap.size 25 (pCells ac nc cc af nf cf refs ints) := (Blk.new w _ _).alloc _
  have B2 : Blk ((w.alloc (.cells #[.slice ac nc cc, .slice af nf cf, .int .i64 refs, .int .i64 ints] 25)).alloc (.cells #[.int .i64 op, .int .i64 a, .int .i64 b, .int .i64 c, .int .i64 n] 37)) (w.heap.size + 1) 37 (Ins.cells ⟨op, a, b, c, n⟩) := Blk.new_at _ _ _ (by simp)
  have hb3 := below3 8 a b c ((w.alloc (.cells #[.slice ac nc cc, .slice af nf cf, .int .i64 refs, .int .i64 ints] 25)).alloc (.cells #[.int .i64 op, .int .i64 a, .int .i64 b, .int .i64 c, .int .i64 n] 37)) (w.heap.size + 1 + 1) (by simp) (by unfold I64; omega) r2 r3 r4
  have hb1 := below1 41 op (((w.alloc (.cells #[.slice ac nc cc, .slice af nf cf, .int .i64 refs, .int .i64 ints] 25)).alloc (.cells #[.int .i64 op, .int .i64 a, .int .i64 b, .int .i64 c, .int .i64 n] 37)).alloc (.cells #[.int .i64 a, .int .i64 b, .int .i64 c] 2)) (w.heap.size + 1 + 1 + 1) (by simp) (by unfold I64; omega) r1
  have hbm := fun most (h : I64 most) => below1 most n ((((w.alloc (.cells #[.slice ac nc cc, .slice af nf cf, .int .i64 refs, .int .i64 ints] 25)).alloc (.cells #[.int .i64 op, .int .i64 a, .int .i64 b, .int .i64 c, .int .i64 n] 37)).alloc (.cells #[.int .i64 a, .int .i64 b, .int .i64 c] 2)).alloc (.cells #[.int .i64 op] 2)) (w.heap.size + 1 + 1 + 1 + 1) (by simp) h r5
  have HF := Lib.hid F1
  have HCL := Lib.hid hcl0
  have HB3 := Lib.hid hb3
  have HB1 := Lib.hid hb1
  have HBM := Lib.hid hbm
  have HP := Lib.hid B1
  have HI := Lib.hid B2
  have HL := Lib.hid hl
  have hmf := mkFunc
  have HR := Lib.hid hri
  have hz1 := r5.1
  have hz2 := r5.2
  clear hS hcl0 F1 B1 B2 hb3 hb1 hbm hl r1 r2 r3 r4 r5 hri
  cases hbA : belowB 8 [a, b, c] with
  | false =>
    rw [insB_b1 hbA]
    rw [hbA] at HB3
    go_enter Try.func16, Try.ntmps16
    go_wp2_with fail
    refine HB3.out.mono ?_
    rintro e w' ⟨rfl, rfl⟩
    go_wp2
    go_ret
    exact ⟨rfl, HF.out.alloc _⟩
  | true =>
    rw [hbA] at HB3
    cases hbO : belowB 41 [op] with
    | false =>
      rw [insB_b2 hbA hbO]
      rw [hbO] at HB1
      go_enter Try.func16, Try.ntmps16
      go_wp2_with fail
      refine HB3.out.mono ?_
      rintro e w' ⟨rfl, rfl⟩
      go_wp2_with fail
      refine HB1.out.mono ?_
      rintro e w' ⟨rfl, rfl⟩
      go_wp2
      go_ret
      exact ⟨rfl, (HF.out.alloc _).alloc _⟩
    | true =>
      rw [hbO] at HB1
      have HA := Lib.hid hbA
      have HO := Lib.hid hbO
      clear hbA hbO
      rcases op_cases op with rfl | rfl | rfl | hop | hop | hop | hop | hop | hop | hop | hop | hop | hop | hop | hop | hop | hop | hop | hop
      · rw [insB_1 HA.out]
        go_enter Try.func16, Try.ntmps16
        go_wp2_with fail
        refine HB3.out.mono ?_
        rintro e w' ⟨rfl, rfl⟩
        go_wp2_with fail
        refine HB1.out.mono ?_
        rintro e w' ⟨rfl, rfl⟩
        go_wp2
        go_ret
        exact ⟨rfl, (HF.out.alloc _).alloc _⟩
      · rw [insB_13 HA.out]
        go_enter Try.func16, Try.ntmps16
        go_wp2_with fail
        refine HB3.out.mono ?_
        rintro e w' ⟨rfl, rfl⟩
        go_wp2_with fail
        refine HB1.out.mono ?_
        rintro e w' ⟨rfl, rfl⟩
        go_wp2_with fail
        refine (HCL.out _ ((HF.out.alloc _).alloc _) ((HP.out.alloc _).alloc _) ((HI.out.alloc _).alloc _)).mono ?_
        rintro e w' ⟨rfl, f1⟩
        go_wp2
        go_ret
        exact ⟨rfl, ((HF.out.alloc _).alloc _).trans f1⟩
      · rw [insB_12 HA.out, HL.out]
        by_cases h1 : 1 ≤ n
        · have HB := Lib.hid (HBM.out ((nc : Int) + 1) (by unfold I64; omega))
          rw [belowB_one] at HB
          by_cases h2 : n ≤ nc
          · rw [decide_eq_true (p := 0 ≤ n ∧ n < (nc : Int) + 1) (by omega)] at HB
            rw [decide_eq_true (p := 1 ≤ n ∧ n ≤ (nc : Int)) (by omega), Bool.true_and]
            go_enter Try.func16, Try.ntmps16
            go_wp2_with fail
            refine HB3.out.mono ?_
            rintro e w' ⟨rfl, rfl⟩
            go_wp2_with fail
            refine HB1.out.mono ?_
            rintro e w' ⟨rfl, rfl⟩
            go_wp2_with fail
            refine HB.out.mono ?_
            rintro e w' ⟨rfl, rfl⟩
            go_wp2_with fail
            refine (HCL.out _ (((HF.out.alloc _).alloc _).alloc _) (((HP.out.alloc _).alloc _).alloc _) (((HI.out.alloc _).alloc _).alloc _)).mono ?_
            rintro e w' ⟨rfl, f1⟩
            go_wp2
            go_ret
            exact ⟨rfl, (((HF.out.alloc _).alloc _).alloc _).trans f1⟩
          · rw [decide_eq_false (p := 0 ≤ n ∧ n < (nc : Int) + 1) (by omega)] at HB
            rw [decide_eq_false (p := 1 ≤ n ∧ n ≤ (nc : Int)) (by omega), Bool.false_and]
            go_enter Try.func16, Try.ntmps16
            go_wp2_with fail
            refine HB3.out.mono ?_
            rintro e w' ⟨rfl, rfl⟩
            go_wp2_with fail
            refine HB1.out.mono ?_
            rintro e w' ⟨rfl, rfl⟩
            go_wp2_with fail
            refine HB.out.mono ?_
            rintro e w' ⟨rfl, rfl⟩
            go_wp2
            go_ret
            exact ⟨rfl, ((HF.out.alloc _).alloc _).alloc _⟩
        · rw [decide_eq_false (p := 1 ≤ n ∧ n ≤ (nc : Int)) (by omega), Bool.false_and]
          go_enter Try.func16, Try.ntmps16
          go_wp2_with fail
          refine HB3.out.mono ?_
          rintro e w' ⟨rfl, rfl⟩
          go_wp2_with fail
          refine HB1.out.mono ?_
          rintro e w' ⟨rfl, rfl⟩
          go_wp2
          go_ret
          exact ⟨rfl, (HF.out.alloc _).alloc _⟩
      · rw [insB_j HA.out (by omega)]
        have HB := Lib.hid (HBM.out len HR.out.2.2)
        try subst hop
        generalize belowB len [n] = bb at *
        go_enter Try.func16, Try.ntmps16
        go_wp2_with fail
        refine HB3.out.mono ?_
        rintro e w' ⟨rfl, rfl⟩
        go_wp2_with fail
        refine HB1.out.mono ?_
        rintro e w' ⟨rfl, rfl⟩
        go_wp2_with fail
        refine HB.out.mono ?_
        rintro e w' ⟨rfl, rfl⟩
        go_wp2
        go_ret
        exact ⟨rfl, ((HF.out.alloc _).alloc _).alloc _⟩
      · rw [insB_j HA.out (by omega)]
        have HB := Lib.hid (HBM.out len HR.out.2.2)
        try subst hop
        generalize belowB len [n] = bb at *
        go_enter Try.func16, Try.ntmps16
        go_wp2_with fail
        refine HB3.out.mono ?_
        rintro e w' ⟨rfl, rfl⟩
        go_wp2_with fail
        refine HB1.out.mono ?_
        rintro e w' ⟨rfl, rfl⟩
        go_wp2_with fail
        refine HB.out.mono ?_
        rintro e w' ⟨rfl, rfl⟩
        go_wp2
        go_ret
        exact ⟨rfl, ((HF.out.alloc _).alloc _).alloc _⟩
      · rw [insB_f HA.out (by omega)]
        have HB := Lib.hid (HBM.out 64 (by unfold I64; omega))
        try subst hop
        generalize belowB 64 [n] = bb at *
        go_enter Try.func16, Try.ntmps16
        go_wp2_with fail
        refine HB3.out.mono ?_
        rintro e w' ⟨rfl, rfl⟩
        go_wp2_with fail
        refine HB1.out.mono ?_
        rintro e w' ⟨rfl, rfl⟩
        go_wp2_with fail
        refine HB.out.mono ?_
        rintro e w' ⟨rfl, rfl⟩
        go_wp2
        go_ret
        exact ⟨rfl, ((HF.out.alloc _).alloc _).alloc _⟩
      · rw [insB_f HA.out (by omega)]
        have HB := Lib.hid (HBM.out 64 (by unfold I64; omega))
        try subst hop
        generalize belowB 64 [n] = bb at *
        go_enter Try.func16, Try.ntmps16
        go_wp2_with fail
        refine HB3.out.mono ?_
        rintro e w' ⟨rfl, rfl⟩
        go_wp2_with fail
        refine HB1.out.mono ?_
        rintro e w' ⟨rfl, rfl⟩
        go_wp2_with fail
        refine HB.out.mono ?_
        rintro e w' ⟨rfl, rfl⟩
        go_wp2
        go_ret
        exact ⟨rfl, ((HF.out.alloc _).alloc _).alloc _⟩
      · rw [insB_f HA.out (by omega)]
        have HB := Lib.hid (HBM.out 64 (by unfold I64; omega))
        try subst hop
        generalize belowB 64 [n] = bb at *
        go_enter Try.func16, Try.ntmps16
        go_wp2_with fail
        refine HB3.out.mono ?_
        rintro e w' ⟨rfl, rfl⟩
        go_wp2_with fail
        refine HB1.out.mono ?_
        rintro e w' ⟨rfl, rfl⟩
        go_wp2_with fail
        refine HB.out.mono ?_
        rintro e w' ⟨rfl, rfl⟩
        go_wp2
        go_ret
        exact ⟨rfl, ((HF.out.alloc _).alloc _).alloc _⟩
      · rw [insB_f HA.out (by omega)]
        have HB := Lib.hid (HBM.out 64 (by unfold I64; omega))
        try subst hop
        generalize belowB 64 [n] = bb at *
        go_enter Try.func16, Try.ntmps16
        go_wp2_with fail
        refine HB3.out.mono ?_
        rintro e w' ⟨rfl, rfl⟩
        go_wp2_with fail
        refine HB1.out.mono ?_
        rintro e w' ⟨rfl, rfl⟩
        go_wp2_with fail
        refine HB.out.mono ?_
        rintro e w' ⟨rfl, rfl⟩
        go_wp2
        go_ret
        exact ⟨rfl, ((HF.out.alloc _).alloc _).alloc _⟩
      · rw [insB_f HA.out (by omega)]
        have HB := Lib.hid (HBM.out 64 (by unfold I64; omega))
        try subst hop
        generalize belowB 64 [n] = bb at *
        go_enter Try.func16, Try.ntmps16
        go_wp2_with fail
        refine HB3.out.mono ?_
        rintro e w' ⟨rfl, rfl⟩
        go_wp2_with fail
        refine HB1.out.mono ?_
        rintro e w' ⟨rfl, rfl⟩
        go_wp2_with fail
        refine HB.out.mono ?_
        rintro e w' ⟨rfl, rfl⟩
        go_wp2
        go_ret
        exact ⟨rfl, ((HF.out.alloc _).alloc _).alloc _⟩
      · rw [insB_f HA.out (by omega)]
        have HB := Lib.hid (HBM.out 64 (by unfold I64; omega))
        try subst hop
        generalize belowB 64 [n] = bb at *
        go_enter Try.func16, Try.ntmps16
        go_wp2_with fail
        refine HB3.out.mono ?_
        rintro e w' ⟨rfl, rfl⟩
        go_wp2_with fail
        refine HB1.out.mono ?_
        rintro e w' ⟨rfl, rfl⟩
        go_wp2_with fail
        refine HB.out.mono ?_
        rintro e w' ⟨rfl, rfl⟩
        go_wp2
        go_ret
        exact ⟨rfl, ((HF.out.alloc _).alloc _).alloc _⟩
      · rw [insB_f HA.out (by omega)]
        have HB := Lib.hid (HBM.out 64 (by unfold I64; omega))
        try subst hop
        generalize belowB 64 [n] = bb at *
        go_enter Try.func16, Try.ntmps16
        go_wp2_with fail
        refine HB3.out.mono ?_
        rintro e w' ⟨rfl, rfl⟩
        go_wp2_with fail
        refine HB1.out.mono ?_
        rintro e w' ⟨rfl, rfl⟩
        go_wp2_with fail
        refine HB.out.mono ?_
        rintro e w' ⟨rfl, rfl⟩
        go_wp2
        go_ret
        exact ⟨rfl, ((HF.out.alloc _).alloc _).alloc _⟩
      · rw [insB_r HA.out (by omega)]
        have HB := Lib.hid (HBM.out refs HR.out.1)
        try subst hop
        generalize belowB refs [n] = bb at *
        go_enter Try.func16, Try.ntmps16
        go_wp2_with fail
        refine HB3.out.mono ?_
        rintro e w' ⟨rfl, rfl⟩
        go_wp2_with fail
        refine HB1.out.mono ?_
        rintro e w' ⟨rfl, rfl⟩
        go_wp2_with fail
        refine HB.out.mono ?_
        rintro e w' ⟨rfl, rfl⟩
        go_wp2
        go_ret
        exact ⟨rfl, ((HF.out.alloc _).alloc _).alloc _⟩
      · rw [insB_r HA.out (by omega)]
        have HB := Lib.hid (HBM.out refs HR.out.1)
        try subst hop
        generalize belowB refs [n] = bb at *
        go_enter Try.func16, Try.ntmps16
        go_wp2_with fail
        refine HB3.out.mono ?_
        rintro e w' ⟨rfl, rfl⟩
        go_wp2_with fail
        refine HB1.out.mono ?_
        rintro e w' ⟨rfl, rfl⟩
        go_wp2_with fail
        refine HB.out.mono ?_
        rintro e w' ⟨rfl, rfl⟩
        go_wp2
        go_ret
        exact ⟨rfl, ((HF.out.alloc _).alloc _).alloc _⟩
      · rw [insB_i HA.out (by omega)]
        have HB := Lib.hid (HBM.out ints HR.out.2.1)
        try subst hop
        generalize belowB ints [n] = bb at *
        go_enter Try.func16, Try.ntmps16
        go_wp2_with fail
        refine HB3.out.mono ?_
        rintro e w' ⟨rfl, rfl⟩
        go_wp2_with fail
        refine HB1.out.mono ?_
        rintro e w' ⟨rfl, rfl⟩
        go_wp2_with fail
        refine HB.out.mono ?_
        rintro e w' ⟨rfl, rfl⟩
        go_wp2
        go_ret
        exact ⟨rfl, ((HF.out.alloc _).alloc _).alloc _⟩
      · rw [insB_i HA.out (by omega)]
        have HB := Lib.hid (HBM.out ints HR.out.2.1)
        try subst hop
        generalize belowB ints [n] = bb at *
        go_enter Try.func16, Try.ntmps16
        go_wp2_with fail
        refine HB3.out.mono ?_
        rintro e w' ⟨rfl, rfl⟩
        go_wp2_with fail
        refine HB1.out.mono ?_
        rintro e w' ⟨rfl, rfl⟩
        go_wp2_with fail
        refine HB.out.mono ?_
        rintro e w' ⟨rfl, rfl⟩
        go_wp2
        go_ret
        exact ⟨rfl, ((HF.out.alloc _).alloc _).alloc _⟩
      · rw [insB_c HA.out (by omega)]
        have HB := Lib.hid (HBM.out (nf : Int) (by unfold I64; omega))
        try subst hop
        generalize belowB (nf : Int) [n] = bb at *
        go_enter Try.func16, Try.ntmps16
        go_wp2_with fail
        refine HB3.out.mono ?_
        rintro e w' ⟨rfl, rfl⟩
        go_wp2_with fail
        refine HB1.out.mono ?_
        rintro e w' ⟨rfl, rfl⟩
        go_wp2_with fail
        refine HB.out.mono ?_
        rintro e w' ⟨rfl, rfl⟩
        go_wp2
        go_ret
        exact ⟨rfl, ((HF.out.alloc _).alloc _).alloc _⟩
      · rw [insB_c HA.out (by omega)]
        have HB := Lib.hid (HBM.out (nf : Int) (by unfold I64; omega))
        try subst hop
        generalize belowB (nf : Int) [n] = bb at *
        go_enter Try.func16, Try.ntmps16
        go_wp2_with fail
        refine HB3.out.mono ?_
        rintro e w' ⟨rfl, rfl⟩
        go_wp2_with fail
        refine HB1.out.mono ?_
        rintro e w' ⟨rfl, rfl⟩
        go_wp2_with fail
        refine HB.out.mono ?_
        rintro e w' ⟨rfl, rfl⟩
        go_wp2
        go_ret
        exact ⟨rfl, ((HF.out.alloc _).alloc _).alloc _⟩
      · rw [insB_e HA.out HO.out hop]
        have HB := Lib.hid (HBM.out 1 (by unfold I64; omega))
        obtain ⟨h01, h02, h03, h04, h05, h06, h07, h08, h09, h10, h11, h12, h13, h14, h15, h16, h17, h18⟩ := hop
        generalize belowB 1 [n] = bb at *
        go_enter Try.func16, Try.ntmps16
        go_wp2_with fail
        refine HB3.out.mono ?_
        rintro e w' ⟨rfl, rfl⟩
        go_wp2_with fail
        refine HB1.out.mono ?_
        rintro e w' ⟨rfl, rfl⟩
        go_wp2_with fail
        refine HB.out.mono ?_
        rintro e w' ⟨rfl, rfl⟩
        go_wp2
        go_ret
        exact ⟨rfl, ((HF.out.alloc _).alloc _).alloc _⟩
end Go.Proofs.Ytobghplhoeangaa
