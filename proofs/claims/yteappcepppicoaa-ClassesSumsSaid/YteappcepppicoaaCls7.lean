/- The contracts of package classes and of ballastref03: Header, Parts. -/
import Derived.Test.YteappcepppicoaaCls6
import Derived.Test.YteappcepppicoaaBits
namespace Go.Proofs.Yteappcepppicoaa
open Go.RowKit Go.HK
set_option maxRecDepth 100000

/-- a header: both parts cut to their widths -/
def hdr (cl len : Int) : Int := 4611686018427387904 + (cl % 16777216) * 4294967296 + len % 4294967296
theorem hdr_bd (cl len : Int) : 4611686018427387904 ≤ hdr cl len ∧ hdr cl len < 4683743612465315840 := by unfold hdr; omega
theorem hdr_parts (cl len : Int) : (hdr cl len / 4294967296) % 16777216 = cl % 16777216 ∧ hdr cl len % 4294967296 = len % 4294967296 := by unfold hdr; omega

theorem wrap64_of {n : Int} (h : -9223372036854775808 ≤ n ∧ n ≤ 9223372036854775807) : wrap64 n = n := by unfold wrap64; omega

theorem hdr_or (cl len : Int) : bits .or .i64 (bits .or .i64 4611686018427387904 (wrap64 (bits .and .i64 cl 16777215 * 4294967296))) (bits .and .i64 len 4294967295) = hdr cl len := by
  rw [and_24, and_32, wrap64_of (by omega)]
  have h1 : bits .or .i64 4611686018427387904 (cl % 16777216 * 4294967296) = 4611686018427387904 + cl % 16777216 * 4294967296 :=
    or_join 62 _ _ (by omega) (by decide) (by omega) (by omega) (by omega) (by omega)
  rw [h1, or_join 32 _ _ (by omega) (by omega) (by omega) (by omega) (by omega) (by omega)]
  rfl

theorem hdr_add (cl len : Int) : wrap64 (wrap64 (4611686018427387904 + wrap64 (bits .and .i64 cl 16777215 * 4294967296)) + bits .and .i64 len 4294967295) = hdr cl len := by
  rw [and_24, and_32, wrap64_of (n := cl % 16777216 * 4294967296) (by omega), wrap64_of (n := 4611686018427387904 + cl % 16777216 * 4294967296) (by omega), wrap64_of (by omega)]
  rfl

theorem c_Header (cl len : Int) (w : World) :
    Calls Try.prog 10 #[.int .i64 cl, .int .i64 len] w fun e w' => e = .returned (.int .i64 (hdr cl len)) ∧ w = w' := by
  rw [← hdr_or]
  go_enter Try.func10, Try.ntmps10
  go_wp2
  go_ret
  exact ⟨rfl, rfl⟩
theorem r_Header (cl len : Int) (w : World) :
    Calls Try.prog 13 #[.int .i64 cl, .int .i64 len] w fun e w' => e = .returned (.int .i64 (hdr cl len)) ∧ w = w' := by
  rw [← hdr_add]
  go_enter Try.func13, Try.ntmps13
  go_wp2
  go_ret
  exact ⟨rfl, rfl⟩

def pC (h : Int) : Int := (h / 4294967296) % 16777216
def pL (h : Int) : Int := h % 4294967296
def pB (h : Int) : Bool := decide (hdr (pC h) (pL h) = h)
def parts (h : Int) : Value := if pB h then .tuple #[.int .i64 (pC h), .int .i64 (pL h), .bool true] else .tuple #[.int .i64 0, .int .i64 0, .bool false]

theorem c_Parts (h : Int) (w : World) (hi : I64 h) :
    Calls Try.prog 11 #[.int .i64 h] w fun e w' => e = .returned (parts h) ∧ w = w' := by
  obtain ⟨h1, h2⟩ := hi
  have ha : bits .and .i64 (h / 4294967296) 16777215 = pC h := and_24 _
  have hb : bits .and .i64 h 4294967295 = pL h := and_32 _
  have hp : parts h = if pB h then .tuple #[.int .i64 (pC h), .int .i64 (pL h), .bool true] else .tuple #[.int .i64 0, .int .i64 0, .bool false] := rfl
  have hq : pB h = decide (hdr (pC h) (pL h) = h) := rfl
  have hd := c_Header (pC h) (pL h) w
  have HD := Lib.hid hd
  have hk1 : 0 ≤ pC h ∧ pC h < 16777216 := by unfold pC; omega
  have hk2 : 0 ≤ pL h ∧ pL h < 4294967296 := by unfold pL; omega
  rw [hp, hq]
  clear hp hq hd
  obtain ⟨k1, k2⟩ := hk1
  obtain ⟨k3, k4⟩ := hk2
  generalize pC h = x at *
  generalize pL h = y at *
  generalize hdr x y = z at *
  by_cases hz : z = h
  · have hzb : (z != h) = false := by simpa using hz
    rw [show decide (z = h) = true by simpa using hz, if_pos rfl]
    clear hz
    go_enter Try.func11, Try.ntmps11
    go_wp2_with fail
    refine HD.out.mono ?_
    rintro e w' ⟨rfl, rfl⟩
    go_wp2
    go_ret3
    exact ⟨rfl, rfl⟩
  · have hzb : (z != h) = true := by simpa using hz
    rw [show decide (z = h) = false by simpa using hz, if_neg (by simp)]
    clear hz
    go_enter Try.func11, Try.ntmps11
    go_wp2_with fail
    refine HD.out.mono ?_
    rintro e w' ⟨rfl, rfl⟩
    go_wp2
    go_ret3
    exact ⟨rfl, rfl⟩
theorem r_Parts (h : Int) (w : World) (hi : I64 h) :
    Calls Try.prog 12 #[.int .i64 h] w fun e w' => e = .returned (parts h) ∧ w = w' := by
  obtain ⟨h1, h2⟩ := hi
  have ha : bits .and .i64 (h / 4294967296) 16777215 = pC h := and_24 _
  have hb : bits .and .i64 h 4294967295 = pL h := and_32 _
  have hp : parts h = if pB h then .tuple #[.int .i64 (pC h), .int .i64 (pL h), .bool true] else .tuple #[.int .i64 0, .int .i64 0, .bool false] := rfl
  have hq : pB h = decide (hdr (pC h) (pL h) = h) := rfl
  have hd := r_Header (pC h) (pL h) w
  have HD := Lib.hid hd
  have hk1 : 0 ≤ pC h ∧ pC h < 16777216 := by unfold pC; omega
  have hk2 : 0 ≤ pL h ∧ pL h < 4294967296 := by unfold pL; omega
  rw [hp, hq]
  clear hp hq hd
  obtain ⟨k1, k2⟩ := hk1
  obtain ⟨k3, k4⟩ := hk2
  generalize pC h = x at *
  generalize pL h = y at *
  generalize hdr x y = z at *
  by_cases hz : z = h
  · have hzb : (z != h) = false := by simpa using hz
    rw [show decide (z = h) = true by simpa using hz, if_pos rfl]
    clear hz
    go_enter Try.func12, Try.ntmps12
    go_wp2_with fail
    refine HD.out.mono ?_
    rintro e w' ⟨rfl, rfl⟩
    go_wp2
    go_ret3
    exact ⟨rfl, rfl⟩
  · have hzb : (z != h) = true := by simpa using hz
    rw [show decide (z = h) = false by simpa using hz, if_neg (by simp)]
    clear hz
    go_enter Try.func12, Try.ntmps12
    go_wp2_with fail
    refine HD.out.mono ?_
    rintro e w' ⟨rfl, rfl⟩
    go_wp2
    go_ret3
    exact ⟨rfl, rfl⟩

/-! ### the three classes of the chapter's examples -/
def three : List Cls := [⟨2, 1, 0⟩, ⟨0, 0, 1⟩, ⟨0, 0, 2⟩]

theorem three_any (w : World) : Calls Try.prog 24 #[] w fun e w' => e = .returned (.slice (some ⟨w.heap.size, 0, none⟩) 3 3) ∧ RdS 3 Qcl w' (some ⟨w.heap.size, 0, none⟩) 3 three ∧ Fr (fun _ => False) w w' := by
  go_enter Try.func24, Try.ntmps24
  go_wp2
  go_ret
  refine ⟨rfl, ⟨rfl, by unfold maxLen; omega, fun _ => ⟨w.heap.size, 0, rfl, by simp, ?_⟩⟩, (Fr.refl _ w).alloc _⟩
  intro i y hy
  have hi := lt_of_get hy
  have hw := Blk.new w 37 [.int .i64 2, .int .i64 1, .int .i64 0, .int .i64 0, .int .i64 0, .int .i64 1, .int .i64 0, .int .i64 0, .int .i64 2]
  match i, hi, hy with
  | 0, _, hy => simp [three] at hy; subst hy; exact ⟨_, rfl, ⟨rfl, by unfold I64; simp⟩, fun j u hu => (hw.cell _).trans (by match j, hu with | 0, hu => exact hu | 1, hu => exact hu | 2, hu => exact hu)⟩
  | 1, _, hy => simp [three] at hy; subst hy; exact ⟨_, rfl, ⟨rfl, by unfold I64; simp⟩, fun j u hu => (hw.cell _).trans (by match j, hu with | 0, hu => exact hu | 1, hu => exact hu | 2, hu => exact hu)⟩
  | 2, _, hy => simp [three] at hy; subst hy; exact ⟨_, rfl, ⟨rfl, by unfold I64; simp⟩, fun j u hu => (hw.cell _).trans (by match j, hu with | 0, hu => exact hu | 1, hu => exact hu | 2, hu => exact hu)⟩
end Go.Proofs.Yteappcepppicoaa
