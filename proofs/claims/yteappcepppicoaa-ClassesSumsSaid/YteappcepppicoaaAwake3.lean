/- ballastlaw03.awake answers true. -/
import Derived.Test.YteappcepppicoaaCls7
namespace Go.Proofs.Yteappcepppicoaa
open Go.RowKit Go.HK
set_option maxRecDepth 100000

set_option maxHeartbeats 1600000 in
theorem awake_true (w0 : World) : Calls Try.prog 9 #[] w0 fun e w' => e = .returned (.bool true) ∧ Fr (fun _ => False) w0 w' := by
  have G0 := Fr.refl (fun _ => False) w0
  go_enter Try.func9, Try.ntmps9
  go_wp2_with fail
  refine (three_any _).mono ?_
  rintro e w1 ⟨rfl, hs, f1⟩
  have G1 := G0.trans f1
  clear f1
  go_wp2_with fail
  refine (c_Size _ 3 3 three 1 0 _ hs ⟨by omega, by omega⟩).mono ?_
  rintro e w2 ⟨he, f1⟩
  obtain rfl : e = .returned (.tuple #[.int .i64 4, .int .i64 0]) := he
  have G2 := G1.trans f1
  clear f1 hs
  go_wp2_with fail
  refine (three_any _).mono ?_
  rintro e w3 ⟨rfl, hs, f1⟩
  have G3 := G2.trans f1
  clear f1
  go_wp2_with fail
  refine (c_Size _ 3 3 three 2 5 _ hs ⟨by omega, by omega⟩).mono ?_
  rintro e w4 ⟨he, f1⟩
  obtain rfl : e = .returned (.tuple #[.int .i64 6, .int .i64 0]) := he
  have G4 := G3.trans f1
  clear f1 hs
  go_wp2_with fail
  refine (three_any _).mono ?_
  rintro e w5 ⟨rfl, hs, f1⟩
  have G5 := G4.trans f1
  clear f1
  go_wp2_with fail
  refine (c_Size _ 3 3 three 1 3 _ hs ⟨by omega, by omega⟩).mono ?_
  rintro e w6 ⟨he, f1⟩
  obtain rfl : e = .returned (.tuple #[.int .i64 0, .int .i64 11]) := he
  have G6 := G5.trans f1
  clear f1 hs
  go_wp2_with fail
  refine (three_any _).mono ?_
  rintro e w7 ⟨rfl, hs, f1⟩
  have G7 := G6.trans f1
  clear f1
  go_wp2_with fail
  refine (c_Size _ 3 3 three 4 0 _ hs ⟨by omega, by omega⟩).mono ?_
  rintro e w8 ⟨he, f1⟩
  obtain rfl : e = .returned (.tuple #[.int .i64 0, .int .i64 12]) := he
  have G8 := G7.trans f1
  clear f1 hs
  go_wp2_with fail
  refine (c_Header 2 5 _).mono ?_
  rintro e w' ⟨he, rfl⟩
  obtain rfl : e = .returned (.int .i64 4611686027017322501) := he
  go_wp2_with fail
  refine (c_Parts 4611686027017322501 _ ⟨by omega, by omega⟩).mono ?_
  rintro e w' ⟨he, rfl⟩
  obtain rfl : e = .returned (.tuple #[.int .i64 2, .int .i64 5, .bool true]) := he
  go_wp2_with fail
  refine (c_Parts 5 _ ⟨by omega, by omega⟩).mono ?_
  rintro e w' ⟨he, rfl⟩
  obtain rfl : e = .returned (.tuple #[.int .i64 0, .int .i64 0, .bool false]) := he
  go_wp2_with fail
  refine (three_any _).mono ?_
  rintro e w9 ⟨rfl, hs, f1⟩
  have G9 := G8.trans f1
  clear f1
  go_wp2_with fail
  refine (c_Refs _ 3 3 three 1 0 _ hs ⟨by omega, by omega⟩).mono ?_
  rintro e w10 ⟨v, rfl, hv, f1⟩
  have G10 := G9.trans f1
  clear hs
  replace hv : w10.ownsRow w9.heap.size 3 1 v 2 ([1, 2].map (.int .i64)) := hv
  obtain ⟨sa, cap, rfl, _, hl⟩ := owns_at hv
  obtain ⟨g, rfl, _, hg1, hg⟩ := hl (by omega)
  have hl1 : w10.cell? ⟨g, 1, none⟩ = some (.int .i64 2) := hg 1 (by omega)
  clear hl hg f1 hv
  go_wp2_with fail
  refine (three_any _).mono ?_
  rintro e w11 ⟨rfl, hs, f1⟩
  have G11 := G10.trans f1
  have hl2 := f1.cell hl1 (fun h => h)
  clear f1 hl1
  go_wp2_with fail
  refine (c_Check _ 3 3 three _ hs).mono ?_
  rintro e w12 ⟨he, f1⟩
  obtain rfl : e = .returned (.int .i64 0) := he
  have G12 := G11.trans f1
  have hl3 := f1.cell hl2 (fun h => h)
  clear f1 hs hl2
  go_wp2_with fail
  refine (three_any _).mono ?_
  rintro e w13 ⟨rfl, hs, f1⟩
  have G13 := G12.trans f1
  clear f1 hl3
  go_wp2_with fail
  refine (c_Ref _ 3 3 three 2 3 3 _ hs ⟨by omega, by omega⟩).mono ?_
  rintro e w14 ⟨he, f1⟩
  obtain rfl : e = .returned (.bool true) := he
  have G14 := G13.trans f1
  clear f1 hs
  go_wp2_with fail
  refine (three_any _).mono ?_
  rintro e w15 ⟨rfl, hs, f1⟩
  have G15 := G14.trans f1
  clear f1
  go_wp2_with fail
  refine (c_Ref _ 3 3 three 3 3 3 _ hs ⟨by omega, by omega⟩).mono ?_
  rintro e w16 ⟨he, f1⟩
  obtain rfl : e = .returned (.bool false) := he
  have G16 := G15.trans f1
  clear f1 hs
  go_wp2_with fail
  go_ret
  exact ⟨rfl, G16⟩
end Go.Proofs.Yteappcepppicoaa
