/- Package check: below, last; the instructions and programs as they lie in memory. -/
import Derived.Test.YtobghplhoeangaaCkCls
import Derived.Test.YtobghplhoeangaaH2
namespace Go.Proofs.Ytobghplhoeangaa
open Go.RowKit Go.HK
set_option maxRecDepth 100000

structure Ins where
  op : Int
  a : Int
  b : Int
  c : Int
  n : Int
def Ins.cells (x : Ins) : List Value := [.int .i64 x.op, .int .i64 x.a, .int .i64 x.b, .int .i64 x.c, .int .i64 x.n]
def Ins.val (x : Ins) : Value := .agg #[.int .i64 x.op, .int .i64 x.a, .int .i64 x.b, .int .i64 x.c, .int .i64 x.n]
def Ins.rng (x : Ins) : Prop := I64 x.op ∧ I64 x.a ∧ I64 x.b ∧ I64 x.c ∧ I64 x.n
def Qin (l : List Value) (x : Ins) : Prop := l = x.cells ∧ x.rng

def belowB (most : Int) (L : List Int) : Bool := L.all (fun z => decide (0 ≤ z ∧ z < most))
theorem belowB_one (most x : Int) : belowB most [x] = decide (0 ≤ x ∧ x < most) := by simp [belowB]

theorem c_below (most : Int) (a : Option Addr) (n cp : Nat) (L : List Int) (w : World) (h : RdI .i64 w a n L) (hm : I64 most) :
    Calls Try.prog 15 #[.int .i64 most, .slice a n cp] w fun e w' => e = .returned (.bool (belowB most L)) ∧ w = w' := by
  have hn := h.le
  have hl := h.hlen
  unfold maxLen at hn
  have hm1 := hm.1
  have hm2 := hm.2
  have HL := Lib.hid hl
  have H := Lib.hid h
  clear hl h hm
  go_enter Try.func15, Try.ntmps15
  go_wp2_with fail
  go_loop [9] (fun i => ∃ k : Nat, i = .int .i64 k ∧ k ≤ n ∧ belowB most (L.take k) = true) (fun i => n - (intOf i).toNat)
  case atStart => exact ⟨0, rfl, by omega, rfl⟩
  case round =>
    obtain ⟨k, rfl, hk, hall⟩ := hrel
    by_cases hlt : k < n
    · obtain ⟨b, off, rfl, _, hcell⟩ := H.out.at_ (by omega)
      have hx := hcell k hlt
      have hkl : k < L.length := by have := HL.out; omega
      have htk : L.take (k + 1) = L.take k ++ [L.getD k 0] := by
        rw [List.take_add_one, List.getElem?_eq_getElem hkl]
        simp [List.getD_eq_getElem?_getD, List.getElem?_eq_getElem hkl]
      have hst : belowB most (L.take (k + 1)) = decide (0 ≤ L.getD k 0 ∧ L.getD k 0 < most) := by
        unfold belowB at *
        rw [htk, List.all_append, hall]; simp
      have hno : ¬ (0 ≤ L.getD k 0 ∧ L.getD k 0 < most) → belowB most L = false := fun h => by
        unfold belowB
        rw [List.all_eq_false]
        refine ⟨L.getD k 0, ?_, by simpa using h⟩
        rw [List.getD_eq_getElem?_getD, List.getElem?_eq_getElem hkl]
        exact List.getElem_mem hkl
      clear hcell htk
      generalize L.getD k 0 = z at *
      have HST := Lib.hid hst
      have HNO := Lib.hid hno
      have HALL := Lib.hid hall
      clear hst hno hall
      have hz : z < 0 ∨ (0 ≤ z ∧ most ≤ z) ∨ (0 ≤ z ∧ z < most) := by omega
      rcases hz with hz | ⟨hz, hz'⟩ | ⟨hz, hz'⟩
      · go_wp2
        go_ret
        exact ⟨by rw [HNO.out (by omega)]; rfl, rfl⟩
      · go_wp2
        go_ret
        exact ⟨by rw [HNO.out (by omega)]; rfl, rfl⟩
      · go_wp2
        go_round
        case rel => exact ⟨k + 1, by go_num, by omega, by rw [HST.out]; exact decide_eq_true ⟨hz, hz'⟩⟩
        case measure => simp [intOf]; omega
    · have hd : L.take k = L := List.take_of_length_le (by have := HL.out; omega)
      rw [hd] at hall
      have HA := Lib.hid hall
      clear hall hd
      go_wp2
      go_ret
      exact ⟨by rw [HA.out]; rfl, rfl⟩

theorem r_below (x most : Int) (w : World) : Calls Try.prog 34 #[.int .i64 x, .int .i64 most] w fun e w' => e = .returned (.bool (belowB most [x])) ∧ w = w' := by
  rw [belowB_one]
  by_cases h1 : 0 ≤ x
  · by_cases h2 : x < most
    · rw [decide_eq_true ⟨h1, h2⟩]
      go_enter Try.func34, Try.ntmps34
      go_wp2
      go_ret
      exact ⟨rfl, rfl⟩
    · rw [decide_eq_false (fun h => h2 h.2)]
      go_enter Try.func34, Try.ntmps34
      go_wp2
      go_ret
      exact ⟨rfl, rfl⟩
  · rw [decide_eq_false (fun h => h1 h.1)]
    go_enter Try.func34, Try.ntmps34
    go_wp2
    go_ret
    exact ⟨rfl, rfl⟩

theorem rdI_blk {w : World} {b : Nat} {T : TypeId} (xs : List Int) (h : Blk w b T (xs.map (.int .i64))) (hx : ∀ z ∈ xs, I64 z) (hl : xs.length ≤ 1000) (n : Nat) (hn : n = xs.length) : RdI .i64 w (some ⟨b, 0, none⟩) n xs := by
  subst hn
  refine ⟨rfl, by unfold maxLen; omega, fun _ => hx, fun _ => ⟨_, 0, rfl, h.lt, fun i hi => ?_⟩⟩
  have h := h.cell (0 + i)
  rw [h]
  simp [List.getD_eq_getElem?_getD, List.getElem?_eq_getElem hi]

/-- below of a number just laid down -/
theorem below1 (most x : Int) (w : World) (m : Nat) (hm : m = w.heap.size) (h1 : I64 most) (h2 : I64 x) :
    Calls Try.prog 15 #[.int .i64 most, .slice (some ⟨m, 0, none⟩) 1 1] (w.alloc (.cells #[.int .i64 x] 2)) fun e w' => e = .returned (.bool (belowB most [x])) ∧ w.alloc (.cells #[.int .i64 x] 2) = w' :=
  c_below most _ 1 1 [x] _ (rdI_blk [x] (Blk.new_at w 2 [.int .i64 x] hm) (fun z hz => by simp at hz; subst hz; exact h2) (by simp) 1 rfl) h1
theorem below2 (most x y : Int) (w : World) (m : Nat) (hm : m = w.heap.size) (h1 : I64 most) (h2 : I64 x) (h3 : I64 y) :
    Calls Try.prog 15 #[.int .i64 most, .slice (some ⟨m, 0, none⟩) 2 2] (w.alloc (.cells #[.int .i64 x, .int .i64 y] 2)) fun e w' => e = .returned (.bool (belowB most [x, y])) ∧ w.alloc (.cells #[.int .i64 x, .int .i64 y] 2) = w' :=
  c_below most _ 2 2 [x, y] _ (rdI_blk [x, y] (Blk.new_at w 2 [.int .i64 x, .int .i64 y] hm) (fun z hz => by simp at hz; rcases hz with rfl | rfl; exact h2; exact h3) (by simp) 2 rfl) h1
theorem below3 (most x y z : Int) (w : World) (m : Nat) (hm : m = w.heap.size) (h1 : I64 most) (h2 : I64 x) (h3 : I64 y) (h4 : I64 z) :
    Calls Try.prog 15 #[.int .i64 most, .slice (some ⟨m, 0, none⟩) 3 3] (w.alloc (.cells #[.int .i64 x, .int .i64 y, .int .i64 z] 2)) fun e w' => e = .returned (.bool (belowB most [x, y, z])) ∧ w.alloc (.cells #[.int .i64 x, .int .i64 y, .int .i64 z] 2) = w' :=
  c_below most _ 3 3 [x, y, z] _ (rdI_blk [x, y, z] (Blk.new_at w 2 [.int .i64 x, .int .i64 y, .int .i64 z] hm) (fun u hu => by simp at hu; rcases hu with rfl | rfl | rfl; exact h2; exact h3; exact h4) (by simp) 3 rfl) h1

def lastB (x : Ins) : Bool := decide (x.op = 6 ∨ x.op = 31 ∨ x.op = 40)
theorem c_last (x : Ins) (w : World) : Calls Try.prog 17 #[x.val] w fun e w' => e = .returned (.bool (lastB x)) ∧ Fr (fun _ => False) w w' := by
  obtain ⟨op, a, b, c, n⟩ := x
  unfold Ins.val lastB
  simp only
  have F := (Fr.refl (fun _ => False) w).alloc (.cells #[.int .i64 op, .int .i64 a, .int .i64 b, .int .i64 c, .int .i64 n] 37)
  have hop : op = 6 ∨ op = 31 ∨ op = 40 ∨ (op ≠ 6 ∧ op ≠ 31 ∧ op ≠ 40) := by omega
  have HF := Lib.hid F
  clear F
  rcases hop with rfl | rfl | rfl | ⟨h1, h2, h3⟩
  all_goals first
    | (rw [decide_eq_true (by omega)]
       go_enter Try.func17, Try.ntmps17
       go_wp2
       go_ret
       exact ⟨rfl, HF.out⟩)
    | (rw [decide_eq_false (by omega)]
       go_enter Try.func17, Try.ntmps17
       go_wp2
       go_ret
       exact ⟨by first | rfl | simp [*], HF.out⟩)
end Go.Proofs.Ytobghplhoeangaa
