/- TurnsFair, the walk: picked by turns, each of some tasks that go on takes a step within as many picks as there are tasks; and all come to their ends. -/
import Derived.Test.YthpghoafjpbdbaaFair1
namespace Go.Proofs.Ythpghoafjpbdbaa
open Go.RowKit Go.HK
set_option maxRecDepth 100000

set_option maxHeartbeats 3200000 in
theorem walk_TurnsFair (a0 : Option Addr) (n0 c0 : Nat) (L0 : List Int) (w : World) (w0 : RdI .i64 w a0 n0 L0) :
    Calls Try.prog 7 #[.slice a0 n0 c0] w fun e w' => e = .returned (.bool true) ∧ Below w.heap.size w w' := by
  have hll := w0.hlen
  have hle := w0.le
  unfold maxLen at hle
  have W0 := Lib.hid w0
  have HLL := Lib.hid hll
  clear w0 hll
  go_enter Try.func7, Try.ntmps7
  go_wp2_with fail
  refine (awake_true _).mono ?_
  rintro e wa ⟨rfl, f0⟩
  go_wp2_with fail
  refine (c_New wa).mono ?_
  rintro e w1 ⟨rfl, h1, f1⟩
  obtain ⟨P, hP⟩ : ∃ P, P = wa.heap.size := ⟨_, rfl⟩
  rw [← hP] at h1 ⊢
  have hbP : w.heap.size ≤ P := by rw [hP]; exact f0.size
  have G1 := f0.trans f1
  have t1 := TW.nil h1
  clear hP f0 f1 h1
  have HT1 := Lib.hid t1
  clear t1
  go_wp2_with fail
  go_loopw [5, 6, 7] (fun nn al i wr => ∃ (k : Nat) (v : Value) (T : List Tk) (CS : List Int), nn = .int .i64 k ∧ i = .int .i64 k ∧ al = .int .i64 CS.sum ∧ CS.length = k ∧ k ≤ n0 ∧ k ≤ 40 ∧ (∀ c ∈ CS, 1 ≤ c ∧ c ≤ 30) ∧ TW wr P P v T (CS.map cntB) 0 ∧ (∀ (i : Nat) (t : Tk), T[i]? = some t → t.st = 0 ∧ t.n = 0) ∧ Fr (fun _ => False) w wr) (fun _ _ i _ => (50 - intOf i).toNat)
  case atStart => exact ⟨0, _, [], [], rfl, rfl, rfl, rfl, by omega, by omega, fun c hc => by simp at hc, HT1.out, fun i t ht => by simp at ht, G1⟩
  case round =>
    obtain ⟨k, v, T, CS, rfl, rfl, rfl, hcl, hk, hk4, hcs, hT, hz, G⟩ := hrel
    have hsum := sum_ge CS hcs
    have hlen := hT.len
    rw [List.length_map] at hlen
    by_cases hex : k < n0 ∧ k < 40
    · obtain ⟨hex, hex'⟩ := hex
      obtain ⟨b, off, rfl, hb, hcell⟩ := W0.out.at_ (by omega)
      have hx := G.cell (hcell k hex) (fun h => h)
      have h1 := Int.tmod_lt_of_pos (L0.getD k 0) (b := 30) (by omega)
      have h2 := Int.lt_tmod_of_pos (L0.getD k 0) (b := 30) (by omega)
      clear hcell
      generalize L0.getD k 0 = x at *
      obtain ⟨c, hc0, hc1, hsg⟩ : ∃ c : Int, 1 ≤ c ∧ c ≤ 30 ∧ (x.tmod 30 = -(c - 1) ∧ x.tmod 30 < 0 ∨ x.tmod 30 = c - 1 ∧ ¬ x.tmod 30 < 0) := ⟨((x.tmod 30).natAbs : Int) + 1, by omega, by omega, by omega⟩
      have HSG := Lib.hid hsg
      have HCS := Lib.hid hcs
      have HZ := Lib.hid hz
      have HTT := Lib.hid hT
      clear hsg h1 h2 hcs hz hT
      go_upto_if 35 with fail
      go_cut [8] (fun s wx => s = .int .i64 (c - 1) ∧ wx = wr)
      case first =>
        rcases HSG.out with ⟨h4, h5⟩ | ⟨h4, h5⟩
        all_goals
          have H4 := Lib.hid h4
          clear h4
          generalize x.tmod 30 = t at *
          go_wp2
          go_meet
          exact ⟨congrArg (Value.int .i64) (by have := H4.out; first | omega | (unfold wrap64; omega)), rfl⟩
      case rest =>
        obtain ⟨rfl, rfl⟩ := hcut
        have hT := HTT.out
        have hT2 := hT.fr0 ((Fr.refl _ wc).alloc (.cells #[.int .i64 c] 46))
        have hadd := c_AddT P P v T _ 0 19 wc.heap.size (cntB c) _ hT2 (by omega) (by omega) (job_cnt P wc c (by omega) (by omega)) (add_new hT) (by have := hT.tu.str.lt; have := hT.tu.low.1; omega)
        have hbl := fun k hk => hT2.base_le (k := k) (.inr hk)
        have HA := Lib.hid hadd
        have HB := Lib.hid hbl
        have HLN := Lib.hid hlen
        clear hadd hbl hT hT2 hlen
        go_wp2_with fail
        refine HA.out.mono ?_
        rintro e w2 ⟨rfl, v2, b2, hb2, h2, f2⟩
        have G2 := (G.alloc (.cells #[.int .i64 c] 46)).step f2 (fun i hi => .inr (by have := HB.out i hi; omega))
        have H2 := Lib.hid h2
        have HG := Lib.hid G2
        clear h2 f2 G2
        go_wp2
        go_roundw
        case rel => exact ⟨k + 1, v2, _, CS ++ [c], by go_num, by go_num, by rw [List.sum_append]; simp; try omega, by simp [hcl], by omega, by omega, fun z hz => by
          rcases List.mem_append.1 hz with hz | hz
          · exact HCS.out z hz
          · simp at hz; subst hz; exact ⟨hc0, hc1⟩, by rw [List.map_append]; exact H2.out, fun i t ht => by
          rcases get_append ht with ht | ⟨_, rfl⟩
          · exact HZ.out i t ht
          · exact ⟨rfl, rfl⟩, HG.out⟩
        case measure => simp [intOf]; omega
    · have hexit : n0 ≤ k ∨ (k < n0 ∧ 40 ≤ k) := by omega
      obtain ⟨T1, e1, hI1, hF1⟩ := fair_first CS hcs T hlen.symm hz
      obtain ⟨r, T2, e2, hr1, hr2, hr3, hr4⟩ := fair_rest CS hcs (by omega) T1 hI1 100000 (by omega)
      have hrun1 := c_RunT P P v T _ 0 k none 0 0 [] wr hT (rdI_nil _ _) (fun _ _ h => absurd h (by omega)) ⟨by omega, by omega⟩ (by omega) (by omega)
      rw [Int.toNat_natCast, ← hcl, e1, hcl] at hrun1
      have hrun2 := fun w2 (h : TW w2 P P v T1 (CS.map cntB) (0 + k + 1)) => c_RunT P P v T1 _ _ 100000 none 0 0 [] w2 h (rdI_nil _ _) (fun _ _ h => absurd h (by omega)) ⟨by omega, by omega⟩ (by omega) (by omega)
      rw [show (100000 : Int).toNat = 100000 from rfl, e2] at hrun2
      have hbl := fun k hk => hT.base_le (k := k) (.inl hk)
      have hst : ∀ j : Nat, j < k → ∃ s : Int, (s < 1 → (rdy T1).length ≠ k) ∧ nT T1 ((j : Int) + 1) = s := fun j hj => by
        have hlen1 : T1.length = k := by rw [hI1.1, hcl]
        obtain ⟨t, ht⟩ : ∃ t, T1[j]? = some t := ⟨T1[j]'(by omega), List.getElem?_eq_getElem _⟩
        refine ⟨t.n, fun h hl => ?_, nT_at T1 j t ht⟩
        have := hF1 (rdy_full T1 (by rw [hl, hlen1])) j t ht
        omega
      have hrl : (rdy T1).length ≤ 128 := by
        have h1 := rdyUp_le T1 T1.length
        have h2 : T1.length = k := by rw [hI1.1, hcl]
        unfold rdy
        omega
      have HR1 := Lib.hid hrun1
      have HR2 := Lib.hid hrun2
      have HB := Lib.hid hbl
      have HST := Lib.hid hst
      have HR3 := Lib.hid hr3
      have HR4 := Lib.hid hr4
      have hsm : (k : Int) + r = CS.sum := by rw [← hcl]; exact hr1
      have HCL := Lib.hid hcl
      clear hrun1 hrun2 hbl hst hr3 hr4 hr1 hI1 hF1 e1 e2 hT hz hcs hlen hcl hex
      generalize CS.sum = S at *
      rcases hexit with hexit | ⟨hexit, hexit'⟩
      all_goals
        go_wp2_with fail
        clear hexit
        try clear hexit'
        refine HR1.out.mono ?_
        rintro e w2 ⟨rfl, h2, f2⟩
        have G2 := G.step f2 (fun i hi => .inr (by have := HB.out i hi; omega))
        have H2 := Lib.hid h2
        have HG := Lib.hid G2
        clear h2 f2 G2 HR1 G HB
        go_wp2_with fail
        go_loopw [13] (fun i wr => ∃ j : Nat, i = .int .i64 ((j : Int) + 1) ∧ j ≤ k ∧ Fr (fun _ => False) w2 wr) (fun i _ => (50 - intOf i).toNat)
        case atStart => exact ⟨0, rfl, by omega, Fr.refl _ _⟩
        case round =>
          obtain ⟨j, rfl, hj, G3⟩ := hrel
          have h3 := H2.out.fr0 G3
          by_cases hex2 : j < k ∧ k < 30
          · obtain ⟨hex2, hex3⟩ := hex2
            obtain ⟨s, hs1, hs2⟩ := HST.out j hex2
            have hsc := c_StepsX h3 _ _ hs2
            have hrc := c_Ready P P v T1 wr h3.tu
            have HSC := Lib.hid hsc
            have HRC := Lib.hid hrc
            have HS1 := Lib.hid hs1
            clear hsc hrc hs1 hs2 h3
            try (exfalso; omega)
            all_goals
              by_cases hlt : s < 1
              · have hne := HS1.out hlt
                have hne2 : (((rdy T1).length : Int) == (k : Int)) = false := by simp; omega
                go_wp2_with fail
                refine HSC.out.mono ?_
                rintro e w' ⟨rfl, rfl⟩
                go_wp2_with fail
                refine HRC.out.mono ?_
                rintro e w4 ⟨v4, rfl, hv4, f4⟩
                obtain ⟨av, cpv, rfl, _⟩ := owns_rd hv4
                have G4 := G3.trans f4
                clear hv4 f4
                go_wp2
                go_roundw
                case rel => exact ⟨j + 1, by go_num, by omega, G4⟩
                case measure => simp [intOf]; omega
              · clear HRC HS1
                go_wp2_with fail
                refine HSC.out.mono ?_
                rintro e w' ⟨rfl, rfl⟩
                go_wp2
                go_roundw
                case rel => exact ⟨j + 1, by go_num, by omega, G3⟩
                case measure => simp [intOf]; omega
          · have hex3 : k ≤ j ∨ (j < k ∧ 30 ≤ k) := by omega
            have H3 := Lib.hid h3
            clear hex2 h3
            rcases hex3 with hex3 | ⟨hex3, hex4⟩
            all_goals
              go_wp2_with fail
              refine (HR2.out _ H3.out).mono ?_
              rintro e w5 ⟨rfl, h5, f5⟩
              have hq := c_Ready P P _ T2 w5 h5.tu
              rw [HR3.out] at hq
              have hstk := fun w6 (f : Fr (fun _ => False) w5 w6) => c_Stuck P P _ T2 w6 (h5.fr0 f).tu
              rw [HR4.out] at hstk
              have G5 := (HG.out.trans G3).step f5 (fun i hi => .inr (by have := H3.out.base_le (.inl hi); omega))
              have HQ := Lib.hid hq
              have HSK := Lib.hid hstk
              have HG5 := Lib.hid G5
              clear hq hstk G5 h5 f5
              go_wp2_with fail
              refine HQ.out.mono ?_
              rintro e w6 ⟨v6, rfl, hv6, f6⟩
              obtain ⟨av, cpv, rfl, _⟩ := owns_rd hv6
              simp only [List.length_nil]
              have HF6 := Lib.hid f6
              clear hv6 f6
              go_wp2_with fail
              refine (HSK.out _ HF6.out).mono ?_
              rintro e w7 ⟨rfl, f7⟩
              have HF7 := Lib.hid f7
              clear f7
              go_wp2
              go_ret
              exact ⟨rfl, ((HG5.out.trans HF6.out).trans HF7.out).below (Nat.le_refl _) (fun _ _ h => h)⟩
end Go.Proofs.Ythpghoafjpbdbaa
