/- TurnsWaits, the walk: who waits takes no step till it is woken, who has ended none at all, whatever is picked. -/
import Derived.Test.YthpghoafjpbdbaaWaits1
namespace Go.Proofs.Ythpghoafjpbdbaa
open Go.RowKit Go.HK
set_option maxRecDepth 100000

/-- a told one, just made, its list replaced -/
theorem job_set (base : Nat) (w : World) :
    jobAt base (((w.alloc (.cells #[.int .i64 2] 3)).alloc (.cells #[.slice (some ⟨w.heap.size + 1 + 1, 0, none⟩) 2 2, .int .i64 0] 29)).alloc (.cells #[.int .i64 1, .int .i64 2] 3)) ⟨0, 16, w.heap.size + 1, 0, 0⟩ (tellP (wL true)) := by
  have h3 := rdI_new (w := (w.alloc (.cells #[.int .i64 2] 3)).alloc (.cells #[.slice (some ⟨w.heap.size + 1 + 1, 0, none⟩) 2 2, .int .i64 0] 29)) [1, 2] (by intro z hz; simp at hz; unfold I64; omega) (by decide)
  simp only [World.size_alloc] at h3
  refine .inl ⟨rfl, some ⟨w.heap.size + 1 + 1, 0, none⟩, 2, 2, [1, 2], (Blk.new_at (m := w.heap.size + 1) _ _ _ (by simp)).alloc _, h3, fun _ b off e => ?_, rfl⟩
  obtain rfl : w.heap.size + 1 + 1 = b := congrArg Addr.block (Option.some.inj e)
  exact .inr ⟨_, Blk.new_at (m := w.heap.size + 1 + 1) _ 3 [.int .i64 1, .int .i64 2] (by simp)⟩

set_option maxHeartbeats 3200000 in
theorem walk_TurnsWaits (a0 : Option Addr) (n0 c0 : Nat) (L0 : Nat → Bool) (a1 : Option Addr) (n1 c1 : Nat) (L1 : List Int) (a2 : Option Addr) (n2 c2 : Nat) (L2 : List Int) (w : World) (w0 : RdB w a0 n0 L0) (w1 : RdI .i64 w a1 n1 L1) (w2 : RdI .i64 w a2 n2 L2) :
    Calls Try.prog 4 #[.slice a0 n0 c0, .slice a1 n1 c1, .slice a2 n2 c2] w fun e w' => e = .returned (.bool true) ∧ Below w.heap.size w w' := by
  have hle0 := w0.le
  have hle1 := w1.le
  have hle2 := w2.le
  have hl1 := w1.hlen
  have hl2 := w2.hlen
  have hr1 := w1.rng rfl
  have hr2 := w2.rng rfl
  unfold maxLen at hle0 hle1 hle2
  have W0 := Lib.hid w0
  have W1 := Lib.hid w1
  have W2 := Lib.hid w2
  have HL1 := Lib.hid hl1
  have HL2 := Lib.hid hl2
  have HR1 := Lib.hid hr1
  have HR2 := Lib.hid hr2
  clear w0 w1 w2 hl1 hl2 hr1 hr2
  go_enter Try.func4, Try.ntmps4
  go_wp2_with fail
  refine (awake_true _).mono ?_
  rintro e wa ⟨rfl, f0⟩
  go_wp2_with fail
  refine (c_New wa).mono ?_
  rintro e w1 ⟨rfl, h1, f1⟩
  obtain ⟨P, hP⟩ : ∃ P, P = wa.heap.size := ⟨_, rfl⟩
  rw [← hP] at h1 ⊢
  have hbP : w.heap.size ≤ P := by rw [hP]; exact f0.size
  have G1 := f0.trans f1
  have t1 := TW.nil h1
  clear hP f0 f1 h1
  have HT1 := Lib.hid t1
  clear t1
  go_wp2_with fail
  go_loopw [9, 10] (fun nn i wr => ∃ (k : Nat) (v : Value) (T : List Tk), nn = .int .i64 k ∧ i = .int .i64 k ∧ k ≤ n0 ∧ k ≤ 20 ∧ TW wr P P v T (wBS L0 k) 0 ∧ (∀ (i : Nat) (t : Tk), T[i]? = some t → t.st = 0 ∧ t.n = 0) ∧ Fr (fun _ => False) w wr) (fun _ i _ => (50 - intOf i).toNat)
  case atStart => exact ⟨0, _, [], rfl, rfl, by omega, by omega, HT1.out, fun i t ht => by simp at ht, G1⟩
  case round =>
    obtain ⟨k, v, T, rfl, rfl, hk, hk4, hT, hz, G⟩ := hrel
    have hlen : T.length = k := by rw [← hT.len]; simp [wBS]
    by_cases hex : k < n0 ∧ k < 20
    · obtain ⟨hex, hex'⟩ := hex
      obtain ⟨b, off, rfl, hb, hcell⟩ := W0.out.at_ (by omega)
      have hx0 := hcell k hex
      have hsP : P ≤ wr.heap.size := by have := hT.tu.str.lt; have := hT.tu.low.1; omega
      have hxs := add_new hT
      clear hcell
      cases hwk : L0 k with
      | true =>
        rw [hwk] at hx0
        have F2 : Fr (fun _ => False) wr (((wr.alloc (.cells #[.int .i64 2] 3)).alloc (.cells #[.slice (some ⟨wr.heap.size + 1 + 1, 0, none⟩) 2 2, .int .i64 0] 29)).alloc (.cells #[.int .i64 1, .int .i64 2] 3)) := (((Fr.refl _ wr).alloc _).alloc _).alloc _
        have hT2 := hT.fr0 F2
        have hadd := c_AddT P P v T _ 0 16 (wr.heap.size + 1) (tellP (wL true)) _ hT2 (by omega) (by omega) (job_set P wr) (fun i t ht e => by
          obtain ⟨B, _, hj⟩ := hT.get ht
          have := hj.lt
          omega) (by omega)
        have hbl := fun k hk => hT2.base_le (k := k) (.inr hk)
        have G2 := G.trans F2
        have hc1 : ((wr.alloc (.cells #[.int .i64 2] 3)).alloc (.cells #[.slice (some ⟨wr.heap.size, 0, none⟩) 1 1, .int .i64 0] 29)).cell? ⟨b, off + k, none⟩ = some (.bool true) := (G.alloc _).alloc _ |>.cell hx0 (fun h => h)
        have HA := Lib.hid hadd
        have HB := Lib.hid hbl
        have HZ := Lib.hid hz
        have HWK := Lib.hid hwk
        have HG2 := Lib.hid G2
        rw [hlen] at HA
        have HLN := Lib.hid hlen
        clear hadd hbl hT hT2 hz hlen hwk F2 G2 hx0 hxs
        go_wp2_with fail
        refine HA.out.mono ?_
        rintro e w2 ⟨rfl, v2, b2, hb2, h2, f2⟩
        have G3 := HG2.out.step f2 (fun i hi => .inr (by have := HB.out i hi; omega))
        have H2 := Lib.hid h2
        have HG := Lib.hid G3
        clear h2 f2 G3
        go_wp2
        go_roundw
        case rel => exact ⟨k + 1, v2, _, by go_num, by go_num, by omega, by omega, by rw [wBS_succ, HWK.out]; exact H2.out, fun i t ht => by
          rcases get_append ht with ht | ⟨_, rfl⟩
          · exact HZ.out i t ht
          · exact ⟨rfl, rfl⟩, HG.out⟩
        case measure => simp [intOf]; omega
      | false =>
        rw [hwk] at hx0
        have F2 : Fr (fun _ => False) wr ((wr.alloc (.cells #[.int .i64 2] 3)).alloc (.cells #[.slice (some ⟨wr.heap.size, 0, none⟩) 1 1, .int .i64 0] 29)) := ((Fr.refl _ wr).alloc _).alloc _
        have hT2 := hT.fr0 F2
        have hadd := c_AddT P P v T _ 0 16 (wr.heap.size + 1) (tellP [2]) _ hT2 (by omega) (by omega) (job_new P wr [2] (by intro z hz; simp at hz; unfold I64; omega) (by decide) 1 rfl) (fun i t ht e => by
          obtain ⟨B, _, hj⟩ := hT.get ht
          have := hj.lt
          omega) (by omega)
        have hbl := fun k hk => hT2.base_le (k := k) (.inr hk)
        have G2 := G.trans F2
        have hc1 : ((wr.alloc (.cells #[.int .i64 2] 3)).alloc (.cells #[.slice (some ⟨wr.heap.size, 0, none⟩) 1 1, .int .i64 0] 29)).cell? ⟨b, off + k, none⟩ = some (.bool false) := (G.alloc _).alloc _ |>.cell hx0 (fun h => h)
        have HA := Lib.hid hadd
        have HB := Lib.hid hbl
        have HZ := Lib.hid hz
        have HWK := Lib.hid hwk
        have HG2 := Lib.hid G2
        rw [hlen] at HA
        have HLN := Lib.hid hlen
        clear hadd hbl hT hT2 hz hlen hwk F2 G2 hx0 hxs
        go_wp2_with fail
        refine HA.out.mono ?_
        rintro e w2 ⟨rfl, v2, b2, hb2, h2, f2⟩
        have G3 := HG2.out.step f2 (fun i hi => .inr (by have := HB.out i hi; omega))
        have H2 := Lib.hid h2
        have HG := Lib.hid G3
        clear h2 f2 G3
        go_wp2
        go_roundw
        case rel => exact ⟨k + 1, v2, _, by go_num, by go_num, by omega, by omega, by rw [wBS_succ, HWK.out]; exact H2.out, fun i t ht => by
          rcases get_append ht with ht | ⟨_, rfl⟩
          · exact HZ.out i t ht
          · exact ⟨rfl, rfl⟩, HG.out⟩
        case measure => simp [intOf]; omega
    · have hexit : n0 ≤ k ∨ (k < n0 ∧ 20 ≤ k) := by omega
      obtain ⟨r1, T1, e1, hr1, hl1, hn1, hF1⟩ := waits_one L0 k hk4 T hlen hz
      obtain ⟨r2, T2, e2, hr2, hl2, hF2⟩ := waits_two L0 k hk4 L2 T1 hl1 hF1
      have hrun1 := c_RunT P P v T _ 0 200 none 0 0 [] wr hT (rdI_nil _ _) (fun _ _ h => absurd h (by omega)) ⟨by omega, by omega⟩ (by omega) (by omega)
      rw [show (200 : Int).toNat = 200 from rfl, e1] at hrun1
      have hwake := fun wx (h : TW wx P P v T1 (wBS L0 k) 201) (f : Fr (fun _ => False) w wx) => c_WakeT P P v T1 _ 201 a2 n2 c2 L2 wx h (W2.out.below (f.below (Nat.le_refl _) (fun _ _ h => h))) (fun b off h0 e => .inl (by
        obtain ⟨b', off', e', hb', _⟩ := W2.out.at_ h0
        rw [e'] at e
        have := congrArg Addr.block (Option.some.inj e)
        simp only at this
        omega))
      have hrun2 := fun wx (h : TW wx P P v (wakeAll T1 L2) (wBS L0 k) 201) => c_RunT P P v _ _ 201 200 none 0 0 [] wx h (rdI_nil _ _) (fun _ _ h => absurd h (by omega)) ⟨by omega, by omega⟩ (by omega) (by omega)
      rw [show (200 : Int).toNat = 200 from rfl, e2] at hrun2
      have hbl := fun k hk => hT.base_le (k := k) (.inl hk)
      have HRU1 := Lib.hid hrun1
      have HWK := Lib.hid hwake
      have HRU2 := Lib.hid hrun2
      have HB := Lib.hid hbl
      have HN1 := Lib.hid hn1
      have HF2 := Lib.hid hF2
      have HLT2 := Lib.hid hl2
      clear hrun1 hwake hrun2 hbl e1 e2 hF1 hF2 hl1 hl2 hn1 hT hz hlen hex
      rcases hexit with hexit | ⟨hexit, hexit'⟩
      all_goals
        go_wp2_with fail
        clear hexit
        try clear hexit'
        refine HRU1.out.mono ?_
        rintro e wb ⟨rfl, hb, fb⟩
        have Gb := G.step fb (fun i hi => .inr (by have := HB.out i hi; omega))
        have HTb := Lib.hid (hb.mono (N' := 201) (by omega))
        clear fb HB HRU1 hb
        go_wp2_with fail
        go_loopw [14] (fun i wr => ∃ j : Nat, i = .int .i64 j ∧ j ≤ n1 ∧ Fr (fun _ => False) wb wr) (fun i _ => (500 - intOf i).toNat)
        case atStart => exact ⟨0, rfl, by omega, Fr.refl _ _⟩
        case round =>
          obtain ⟨j, rfl, hj, Gc⟩ := hrel
          have h3 := HTb.out.fr0 Gc
          by_cases hex2 : j < n1 ∧ j < 100
          · obtain ⟨hex2, hex3⟩ := hex2
            obtain ⟨b, off, rfl, hb, hcell⟩ := W1.out.at_ (by omega)
            have hx0 := (Gb.trans Gc).cell (hcell j hex2) (fun h => h)
            have hpk := c_Pick_none P P v T1 (L1.getD j 0) _ h3.tu HN1.out
            have HP := Lib.hid hpk
            clear hcell hpk h3
            generalize L1.getD j 0 = p at *
            go_wp2_with fail
            refine HP.out.mono ?_
            rintro e w3 ⟨rfl, f3⟩
            have G3 := Gc.trans f3
            clear f3
            go_wp2
            go_roundw
            case rel => exact ⟨j + 1, by go_num, by omega, G3⟩
            case measure => simp [intOf]; omega
          · have hex3 : n1 ≤ j ∨ (j < n1 ∧ 100 ≤ j) := by omega
            have Gd := Gb.trans Gc
            have hwk := HWK.out _ h3 Gd
            have HW := Lib.hid hwk
            have HB2 := Lib.hid (fun k hk => h3.base_le (k := k) (.inl hk))
            clear hwk h3 hex2 HTb
            rcases hex3 with hex3 | ⟨hex3, hex4⟩
            all_goals
              go_wp2_with fail
              clear hex3
              try clear hex4
              refine HW.out.mono ?_
              rintro e w4 ⟨rfl, h4, f4⟩
              have G4 := Gd.step f4 (fun i hi => .inr (by have := HB2.out i (by obtain ⟨i, t, ht, e⟩ := hi; exact ⟨i, t, ht, .inl e.symm⟩); omega))
              have hr4 := HRU2.out _ h4
              have HB4 := Lib.hid (fun k hk => h4.base_le (k := k) (.inl hk))
              have HR4 := Lib.hid hr4
              clear h4 f4 HW HB2 hr4 HRU2
              go_wp2_with fail
              refine HR4.out.mono ?_
              rintro e w5 ⟨rfl, h5, f5⟩
              have G5 := G4.step f5 (fun i hi => .inr (by have := HB4.out i hi; omega))
              have H5 := Lib.hid h5
              have HG5 := Lib.hid G5
              clear h5 f5 G5 HB4 HR4 G4 Gd Gc Gb G
              have hst : ∀ i : Nat, i < k → Calls Try.prog 15 #[.pointer (some ⟨P, 0, none⟩), .int .i64 ((i : Int) + 1)] w5 fun e w' => e = .returned (.int .i64 (if L0 i = true ∧ (i : Int) + 1 ∈ L2 then 2 else 1)) ∧ w5 = w' := fun i hi => by
                obtain ⟨t, ht⟩ : ∃ t, T2[i]? = some t := ⟨T2[i]'(by rw [HLT2.out]; exact hi), List.getElem?_eq_getElem _⟩
                exact c_StepsX H5.out _ _ (by rw [nT_at T2 i t ht, HF2.out i t ht])
              have hin : ∀ i : Nat, i < n2 → ∃ b off, a2 = some ⟨b, off, none⟩ ∧ w5.cell? ⟨b, off + i, none⟩ = some (.int .i64 (L2.getD i 0)) := fun i hi => by
                obtain ⟨b, off, e, _, hc⟩ := W2.out.at_ (by omega)
                exact ⟨b, off, e, HG5.out.cell (hc i hi) (fun h => h)⟩
              have hin0 : ∀ i : Nat, i < k → ∃ b off, a0 = some ⟨b, off, none⟩ ∧ w5.cell? ⟨b, off + i, none⟩ = some (.bool (L0 i)) := fun i hi => by
                obtain ⟨b, off, e, _, hc⟩ := W0.out.at_ (by omega)
                exact ⟨b, off, e, HG5.out.cell (hc i (by omega)) (fun h => h)⟩
              have HST := Lib.hid hst
              have HIN := Lib.hid hin
              have HIN0 := Lib.hid hin0
              have HBL := Lib.hid (HG5.out.below (Nat.le_refl _) (fun _ _ h => h))
              clear hst hin hin0 HG5 H5
              go_wp2_with fail
              go_loop [17] (fun i => ∃ j : Nat, i = .int .i64 ((j : Int) + 1) ∧ j ≤ k) (fun i => (100 - intOf i).toNat)
              case atStart => exact ⟨0, rfl, by omega⟩
              case round =>
                obtain ⟨j, rfl, hj⟩ := hrel
                by_cases hlt : j < k
                · have hs := HST.out j hlt
                  have HS := Lib.hid hs
                  clear hs
                  have hin0 := HIN0.out j hlt
                  generalize hWJ : L0 j = W at *
                  have HWJ := Lib.hid hWJ
                  have HI0 := Lib.hid hin0
                  clear hWJ hin0
                  go_wp2_with fail
                  go_loop [18, 19] (fun s m => ∃ q : Nat, m = .int .i64 q ∧ q ≤ n2 ∧ s = .int .i64 (if W = true ∧ (j : Int) + 1 ∈ L2.take q then 2 else 1)) (fun _ m => ((n2 : Int) - intOf m).toNat)
                  case atStart => exact ⟨0, rfl, by omega, by rw [if_neg (by simp)]⟩
                  case round =>
                    obtain ⟨q, rfl, hq, rfl⟩ := hrel
                    by_cases hlq : q < n2
                    · obtain ⟨b2, off2, ea2, hc2⟩ := HIN.out q hlq
                      obtain ⟨b0, off0, ea0, hcb⟩ := HI0.out
                      have htk : L2.take (q + 1) = L2.take q ++ [L2.getD q 0] := by
                        have h1 : q < L2.length := by have := HL2.out; omega
                        rw [List.take_add_one, List.getElem?_eq_getElem h1]
                        simp [List.getD_eq_getElem?_getD, List.getElem?_eq_getElem h1]
                      generalize L2.getD q 0 = z at *
                      have hnx : ((j : Int) + 1 ∈ L2.take (q + 1)) ↔ ((j : Int) + 1 ∈ L2.take q ∨ z = (j : Int) + 1) := by
                        rw [htk, List.mem_append, List.mem_singleton]; exact ⟨fun h => h.imp id Eq.symm, fun h => h.imp id Eq.symm⟩
                      have HNX := Lib.hid hnx
                      clear hnx htk
                      obtain ⟨cv, hcv⟩ : ∃ cv : Int, cv = if W = true ∧ (j : Int) + 1 ∈ L2.take q then 2 else 1 := ⟨_, rfl⟩
                      rw [← hcv]
                      have HCV := Lib.hid hcv
                      clear hcv
                      subst ea2
                      subst ea0
                      by_cases hz : z = (j : Int) + 1
                      · cases hWc : W with
                        | true =>
                          subst hz
                          subst hWc
                          go_wp2
                          go_round
                          case rel => exact ⟨q + 1, by go_num, by omega, by rw [if_pos ⟨by trivial, HNX.out.2 (.inr rfl)⟩]⟩
                          case measure => simp [intOf]; omega
                        | false =>
                          subst hz
                          subst hWc
                          go_wp2
                          go_round
                          case rel => exact ⟨q + 1, by go_num, by omega, by rw [HCV.out, if_neg (fun h => absurd h.1 (by decide)), if_neg (fun h => absurd h.1 (by decide))]⟩
                          case measure => simp [intOf]; omega
                      · have hzb : (z == (j : Int) + 1) = false := by simp [hz]
                        go_wp2
                        go_round
                        case rel => exact ⟨q + 1, by go_num, by omega, by
                          rw [HCV.out]
                          congr 2
                          rw [HNX.out]
                          simp [hz]⟩
                        case measure => simp [intOf]; omega
                    · have hqn : q = n2 := by omega
                      have hd : L2.take q = L2 := List.take_of_length_le (by have := HL2.out; omega)
                      rw [hd]
                      generalize (if W = true ∧ (j : Int) + 1 ∈ L2 then (2 : Int) else 1) = cv at *
                      go_wp2_with fail
                      refine HS.out.mono ?_
                      rintro e w' ⟨rfl, rfl⟩
                      go_wp2
                      go_round
                      case rel => exact ⟨j + 1, by go_num, by omega⟩
                      case measure => simp [intOf]; omega
                · go_wp2
                  go_ret
                  exact ⟨rfl, HBL.out⟩
end Go.Proofs.Ythpghoafjpbdbaa
