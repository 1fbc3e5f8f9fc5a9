/- TurnsPlays, the walk: tasks are added, picked, woken and run, call by call, as chapter 2 says. -/
import Derived.Test.YthpghoafjpbdbaaPl6
namespace Go.Proofs.Ythpghoafjpbdbaa
open Go.RowKit Go.HK
set_option maxRecDepth 100000

theorem own_rdI {w : World} {base : Nat} {v : Value} {n : Nat} {L : List Int} (h : w.ownsRow base 3 1 v n (L.map (.int .i64))) (hn : n = L.length) (hL : ∀ z ∈ L, I64 z) (hl : L.length ≤ 1000) : ∃ a cap, v = .slice a n cap ∧ RdI .i64 w a n L := by
  obtain ⟨a, cap, rfl, hc⟩ := owns_rd h
  refine ⟨a, cap, rfl, hn.symm, by unfold maxLen; omega, fun _ => hL, fun h0 => ?_⟩
  obtain ⟨g, e, _, h2, h3⟩ := hc h0
  refine ⟨g, 0, e, h2, fun i hi => ?_⟩
  rw [Nat.zero_add]
  exact h3 i _ (by rw [List.getElem?_map, List.getD_eq_getElem?_getD, List.getElem?_eq_getElem (by omega)]; rfl)
theorem rdy_rng (T : List Tk) (h : T.length ≤ 128) : (∀ z ∈ rdy T, I64 z) ∧ (rdy T).length ≤ 1000 := by
  refine ⟨fun z hz => ?_, by have := rdyUp_le T T.length; unfold rdy; omega⟩
  obtain ⟨i, h1, h2, _⟩ := (rdyUp_mem T T.length z).1 hz
  unfold I64; omega
theorem nT_at2 (T : List Tk) (i : Nat) (t : Tk) (ht : T[i]? = some t) : nT T ((i : Int) + 1) = t.n := by
  unfold nT fndT
  rw [if_pos (by omega), show ((i : Int) + 1).toNat - 1 = i by omega, ht]
theorem stT_at (T : List Tk) (i : Nat) (t : Tk) (ht : T[i]? = some t) : stT T ((i : Int) + 1) = t.st := by
  unfold stT fndT
  rw [if_pos (by omega), show ((i : Int) + 1).toNat - 1 = i by omega, ht]

set_option maxHeartbeats 8000000 in
theorem walk_TurnsPlays (a0 : Option Addr) (n0 c0 : Nat) (S0 : List OpT) (w : World) (w0 : RdS 3 (Qot w) w a0 n0 S0) :
    Calls Try.prog 6 #[.slice a0 n0 c0] w fun e w' => e = .returned (.bool true) ∧ Below w.heap.size w w' := by
  have hl0 := w0.hlen
  have hle0 := w0.le
  unfold maxLen at hle0
  have HL0 := Lib.hid hl0
  have W0 := Lib.hid w0
  clear w0 hl0
  go_enter Try.func6, Try.ntmps6
  go_wp2_with fail
  refine (awake_true _).mono ?_
  rintro e wa ⟨rfl, f0⟩
  go_wp2_with fail
  refine (c_New wa).mono ?_
  rintro e w1 ⟨rfl, h1, f1⟩
  obtain ⟨P, hP⟩ : ∃ P, P = wa.heap.size := ⟨_, rfl⟩
  rw [← hP] at h1 ⊢
  have hbP : w.heap.size ≤ P := by rw [hP]; exact f0.size
  have G1 := f0.trans f1
  have t1 := TW.nil (Z := fun _ => False) h1
  have hPlt := h1.str.lt
  clear hP f0 f1 h1
  have hR1 : IsRf (w1.alloc (.cells #[.slice none 0 0, .slice none 0 0, .slice none 0 0] 52)) P w1.heap.size (.slice none 0 0) (.slice none 0 0) (.slice none 0 0) [] [] [] 0 :=
    ⟨Blk.new w1 _ _, World.ownsRow_nil _ _ _ _, World.ownsRow_nil _ _ _ _, World.ownsRow_nil _ _ _ _, fun g hg => by simp [Value.ownBlock] at hg, fun i x L hx => by simp at hx, rfl, rfl, by omega, by simp, fun i t ht => by simp at ht⟩
  have hB1 : Both (w1.alloc (.cells #[.slice none 0 0, .slice none 0 0, .slice none 0 0] 52)) P w1.heap.size (.slice none 0 0) (.slice none 0 0) (.slice none 0 0) (.slice none 0 0) [] [] [] 0 := ⟨t1.fr0 ((Fr.refl _ _).alloc _), hR1⟩
  have HB1 := Lib.hid hB1
  have HG1 := Lib.hid (G1.alloc (.cells #[.slice none 0 0, .slice none 0 0, .slice none 0 0] 52))
  clear hR1 hB1 t1 G1 hPlt
  go_wp2_with fail
  generalize w1.heap.size = R at *
  go_loopw [6] (fun i wr => ∃ (j : Nat) (v vt vs vn : Value) (T : List Tk) (LS : List (Option Addr × Nat × Nat)) (TL : List (List Int)), i = .int .i64 j ∧ j ≤ n0 ∧ j ≤ 100 ∧ Both wr P R v vt vs vn T LS TL (100 * (j : Int)) ∧ Fr (fun _ => False) w wr) (fun i _ => (200 - intOf i).toNat)
  case atStart => exact ⟨0, _, _, _, _, _, _, _, rfl, by omega, by omega, HB1.out, HG1.out⟩
  case round =>
    obtain ⟨j, v, vt, vs, vn, T, LS, TL, rfl, hj, hj1, hB, G⟩ := hrel
    have HB := Lib.hid hB
    have HG := Lib.hid G
    clear hB G HB1 HG1
    by_cases hex : j < n0 ∧ j < 100
    · obtain ⟨hex, hex'⟩ := hex
      have hjs : j < S0.length := by have := HL0.out; omega
      obtain ⟨b0, o0, rfl, hb0, hcs⟩ := W0.out.at_ (by omega)
      obtain ⟨cs, hcl, ⟨rfl, hk1, hk2, hL, hcap1, hcap2⟩, hcell⟩ := hcs j _ (List.getElem?_eq_getElem hjs)
      generalize S0[j] = o at *
      obtain ⟨kind, N, la, ln, lc, L⟩ := o
      simp only at hk1 hk2 hL hcap1 hcap2 hcell
      have hx0 := HG.out.cell (hcell 0 _ rfl) (fun h => h)
      have hx1 := HG.out.cell (hcell 1 _ rfl) (fun h => h)
      have hx2 := HG.out.cell (hcell 2 _ rfl) (fun h => h)
      simp only [Nat.add_zero] at hx0 hx1 hx2
      unfold maxLen at hcap2
      have hkm : ∃ K : Int, 0 ≤ K ∧ K ≤ 5 ∧ (kind.tmod 6 + 6 = K ∧ kind.tmod 6 < 0 ∨ kind.tmod 6 = K ∧ ¬ kind.tmod 6 < 0) := by
        have h1 := Int.tmod_lt_of_pos kind (b := 6) (by omega)
        have h2 := Int.lt_tmod_of_pos kind (b := 6) (by omega)
        by_cases h3 : kind.tmod 6 < 0
        · exact ⟨kind.tmod 6 + 6, by omega, by omega, .inl ⟨rfl, h3⟩⟩
        · exact ⟨kind.tmod 6, by omega, by omega, .inr ⟨rfl, h3⟩⟩
      obtain ⟨K, hK0, hK5, hKs⟩ := hkm
      have HK := Lib.hid hKs
      have HLL := Lib.hid hL
      have HI1 := Lib.hid hk1
      have HI2 := Lib.hid hk2
      clear hKs hL hk1 hk2 hcell hcl
      go_upto_if 47 with fail
      go_cut [8] (fun s wy => s = .int .i64 K ∧ wy = wr.alloc (.cells #[.int .i64 kind, .int .i64 N, .slice la ln lc] 54))
      case first =>
        rcases HK.out with ⟨h4, h5⟩ | ⟨h4, h5⟩
        all_goals
          have H4 := Lib.hid h4
          clear h4
          generalize kind.tmod 6 = t at *
          go_wp2
          go_meet
          exact ⟨congrArg (Value.int .i64) (by have := H4.out; first | omega | (unfold wrap64; omega)), rfl⟩
      case rest =>
        obtain ⟨rfl, rfl⟩ := hcut
        obtain ⟨l', hl', hl1, hl2⟩ : ∃ l' : Nat, (ln ≤ 40 ∧ l' = ln ∨ 40 < ln ∧ l' = 40) ∧ l' ≤ ln ∧ l' ≤ 40 := by
          by_cases h : ln ≤ 40
          · exact ⟨ln, .inl ⟨h, rfl⟩, by omega, h⟩
          · exact ⟨40, .inr ⟨by omega, rfl⟩, by omega, by omega⟩
        have hBk := Blk.new wr 54 [.int .i64 kind, .int .i64 N, .slice la ln lc]
        have hF0 := (Fr.refl (fun _ => False) wr).alloc (.cells #[.int .i64 kind, .int .i64 N, .slice la ln lc] 54)
        have HBK := Lib.hid hBk
        have HF0 := Lib.hid hF0
        have HL2 := Lib.hid hl'
        clear hBk hF0 hl'
        go_upto_if 53 with fail
        go_cut [] (fun wy => Blk wy wr.heap.size 54 [.int .i64 kind, .int .i64 N, .slice la l' lc] ∧ Fr (fun _ => False) wr wy)
        case first =>
          as_aux_lemma =>
          rcases HL2.out with ⟨h4, rfl⟩ | ⟨h4, rfl⟩
          · go_wp2
            go_meet
            exact ⟨HBK.out, HF0.out⟩
          · obtain ⟨bl, ol, rfl, _, _⟩ := HLL.out.at_ (by omega)
            go_wp2
            go_meet
            exact ⟨Blk.new wr _ _, (Fr.refl _ wr).alloc _⟩
        case rest =>
          obtain ⟨hbk, hfr⟩ := hcut
          have hM : Mid wc P R v vt vs vn T T LS TL (100 * (j : Int)) (100 * (j : Int)) wr.heap.size [.int .i64 kind, .int .i64 N, .slice la l' lc] := ⟨(HB.out.fr0 hfr).tw, (HB.out.fr0 hfr).rf, hbk⟩
          have hGc := HG.out.trans hfr
          have hRL := HLL.out.cut l' hl1
          have hlow : ∀ b off, 0 < l' → la = some ⟨b, off, none⟩ → b < P := fun b off h0 e => by
            obtain ⟨b', off', e', hb', _⟩ := HLL.out.at_ (by omega)
            rw [e'] at e
            have := congrArg Addr.block (Option.some.inj e)
            simp only at this
            omega
          have HM := Lib.hid hM
          have HGC := Lib.hid hGc
          have HRL := Lib.hid hRL
          have HLOW := Lib.hid hlow
          clear hbk hfr hM hGc hRL hlow HB HG HLL HBK HF0 hx0 hx1 hx2 HL2 hb0 hcap1
          generalize wr.heap.size = B at *
          generalize L.take l' = L' at *
          go_upto_block 2 with fail
          go_cut [] (fun wy => ∃ (v vt vs vn : Value) (T : List Tk) (LS : List (Option Addr × Nat × Nat)) (TL : List (List Int)), Both wy P R v vt vs vn T LS TL (100 * (j : Int) + 99) ∧ Fr (fun _ => False) w wy)
          case first =>
            as_aux_lemma =>
            rcases (show K = 2 ∨ K = 3 ∨ K = 4 ∨ (K ≠ 2 ∧ K ≠ 3 ∧ K ≠ 4) by omega) with rfl | rfl | rfl | ⟨hn2, hn3, hn4⟩
            · as_aux_lemma =>
              have hl' := HRL.out.hlen
              obtain ⟨WN, hWN⟩ : ∃ x, x = wakeN T L' := ⟨_, rfl⟩
              obtain ⟨WA, hWA⟩ : ∃ x, x = wakeAll T L' := ⟨_, rfl⟩
              have HWN := Lib.hid hWN
              have HWA := Lib.hid hWA
              have HLL := Lib.hid hl'
              clear hWN hWA hl'
              go_wp2_with fail
              go_loopw [9, 10] (fun s i wx => ∃ (q : Nat) (c : Int) (T2 : List Tk), i = .int .i64 q ∧ q ≤ l' ∧ s = .int .i64 c ∧ 0 ≤ c ∧ c ≤ q ∧ c + wakeN T2 (L'.drop q) = WN ∧ wakeAll T2 (L'.drop q) = WA ∧ Mid wx P R v vt vs vn T T2 LS TL (100 * (j : Int)) (100 * (j : Int)) B [.int .i64 kind, .int .i64 N, .slice la l' lc] ∧ Fr (fun _ => False) w wx) (fun _ i _ => l' - (intOf i).toNat)
              case atStart => exact ⟨0, 0, T, rfl, by omega, rfl, by omega, by omega, by simp [HWN.out], by simp [HWA.out], HM.out, HGC.out⟩
              case round =>
                obtain ⟨q, c, T2, rfl, hq, rfl, hc0, hc1, hN, hA, hm, G⟩ := hrel
                have hb2 : wr.cell? ⟨B, 2, none⟩ = some (.slice la l' lc) := hm.op.cell 2
                by_cases hlt : q < l'
                · obtain ⟨b, off, rfl, _, hcell⟩ := HRL.out.at_ (by omega)
                  have hx := G.cell (hcell q hlt) (fun h => h)
                  have hql : q < L'.length := by have := HLL.out; omega
                  have hd : L'.drop q = L'.getD q 0 :: L'.drop (q + 1) := by
                    rw [List.drop_eq_getElem_cons hql]
                    simp [List.getD_eq_getElem?_getD, List.getElem?_eq_getElem hql]
                  have hz : I64 (L'.getD q 0) := by
                    rw [List.getD_eq_getElem?_getD, List.getElem?_eq_getElem hql]
                    exact HRL.out.rng rfl _ (List.getElem_mem hql)
                  rw [hd] at hN hA
                  unfold wakeN at hN
                  unfold wakeAll at hA
                  generalize L'.getD q 0 = z at *
                  have hw := m_wakeR hm z hz
                  have HW := Lib.hid hw
                  have HN := Lib.hid hN
                  have HA := Lib.hid hA
                  have HGR := Lib.hid G
                  clear hw hN hA hm G hcell hd hz
                  generalize hbz : waits T2 z = bz at *
                  clear hbz
                  cases bz with
                  | true =>
                    go_wp2_with fail
                    refine HW.out.mono ?_
                    rintro e w1 ⟨rfl, hm1, F1⟩
                    have HM1 := Lib.hid hm1
                    have HG1 := Lib.hid (HGR.out.step F1 (fun k hk => .inr (by omega)))
                    clear hm1 F1
                    simp only [if_true]
                    go_wp2
                    go_roundw
                    case rel => exact ⟨q + 1, c + 1, _, by go_num, by omega, by go_num, by omega, by omega, by have := HN.out; simp at this; omega, HA.out, HM1.out, HG1.out⟩
                    case measure => simp [intOf]; omega
                  | false =>
                    go_wp2_with fail
                    refine HW.out.mono ?_
                    rintro e w1 ⟨rfl, hm1, F1⟩
                    have HM1 := Lib.hid hm1
                    have HG1 := Lib.hid (HGR.out.step F1 (fun k hk => .inr (by omega)))
                    clear hm1 F1
                    simp only [Bool.false_eq_true, if_false]
                    go_wp2
                    go_roundw
                    case rel => exact ⟨q + 1, c, _, by go_num, by omega, by go_num, by omega, by omega, by have := HN.out; simp at this; omega, HA.out, HM1.out, HG1.out⟩
                    case measure => simp [intOf]; omega
                · have hd : L'.drop q = [] := List.drop_of_length_le (by have := HLL.out; omega)
                  rw [hd] at hN hA
                  unfold wakeN at hN
                  unfold wakeAll at hA
                  have hw := m_wakeT hm la l' lc L' (HRL.out.below (G.below (Nat.le_refl _) (fun _ _ h => h))) HLOW.out
                  have hcw : wakeN T L' = c := by rw [← HWN.out]; omega
                  rw [hcw, ← HWA.out, ← hA] at hw
                  have HW := Lib.hid hw
                  have HGR := Lib.hid G
                  clear hw hm hd hN hA hcw G
                  go_wp2_with fail
                  refine HW.out.mono ?_
                  rintro e w1 ⟨rfl, hm1, F1⟩
                  have HM1 := Lib.hid hm1
                  have HG1 := Lib.hid (HGR.out.step F1 (fun k hk => .inr (by omega)))
                  clear hm1 F1
                  go_wp2
                  go_meet
                  exact ⟨v, vt, vs, vn, T2, LS, TL, ⟨HM1.out.tw.mono (by omega), HM1.out.rf.mono (by omega)⟩, HG1.out⟩
            · as_aux_lemma =>
              have hb2 : wc.cell? ⟨B, 2, none⟩ = some (.slice la l' lc) := HM.out.op.cell 2
              by_cases hfull : T.length < 128
              · have hx := m_addT HM.out la l' lc L' wc.heap.size rfl (HRL.out.below (HGC.out.below (Nat.le_refl _) (fun _ _ h => h))) HLOW.out (by omega) hfull
                have HX := Lib.hid hx
                clear hx
                obtain ⟨nt, hnt⟩ : ∃ nt, nt = T.length := ⟨_, rfl⟩
                rw [← hnt] at HX hfull
                have HNT := Lib.hid hnt
                clear hnt
                go_wp2_with fail
                refine HX.out.mono ?_
                rintro e w1 ⟨rfl, v', b, ht, hr, hop, hL1, F1⟩
                have hb2 : w1.cell? ⟨B, 2, none⟩ = some (.slice la l' lc) := hop.cell 2
                have hra := r_Add hr la l' lc L' hL1 (fun h0 b off e => HLOW.out b off h0 e) (by rw [← HNT.out]; exact hfull) (by omega) b 16 wc.heap.size
                rw [← HNT.out] at hra
                have HRA := Lib.hid hra
                have HT1 := Lib.hid ht
                have HR1 := Lib.hid hr
                have HG1 := Lib.hid (HGC.out.step F1 (fun k hk => .inr (by omega)))
                clear hra ht hr hop hL1 F1
                go_wp2_with fail
                refine HRA.out.mono ?_
                rintro e w2 ⟨rfl, vt', vs', vn', hr2, F2⟩
                have HTW2 := Lib.hid (tw_keep HT1.out HR1.out F2)
                have HG2 := Lib.hid (HG1.out.step F2 (fun k hk => .inr (by have := HR1.out.base_le hk; omega)))
                have HR2 := Lib.hid hr2
                clear hr2 F2
                go_wp2
                go_meet
                exact ⟨v', vt', vs', vn', _, _, _, ⟨HTW2.out.mono (by omega), HR2.out.mono (by omega)⟩, HG2.out⟩
              · have F0 := (Fr.refl (fun _ => False) wc).alloc (.cells #[.slice la l' lc, .int .i64 0] 29)
                have hm := HM.out.fr0 F0
                have hca := c_AddFull P P v T 16 wc.heap.size _ hm.tw.tu (by omega)
                have hra := r_AddFull hm.rf la l' lc (by omega)
                have hb3 : (wc.alloc (.cells #[.slice la l' lc, .int .i64 0] 29)).cell? ⟨B, 2, none⟩ = some (.slice la l' lc) := hm.op.cell 2
                have HCA := Lib.hid hca
                have HRA := Lib.hid hra
                have HG2 := Lib.hid (HGC.out.trans F0)
                have HM2 := Lib.hid hm
                clear hca hra hm F0
                go_wp2_with fail
                refine HCA.out.mono ?_
                rintro e w1 ⟨rfl, rfl⟩
                go_wp2_with fail
                refine HRA.out.mono ?_
                rintro e w1 ⟨rfl, rfl⟩
                go_wp2
                go_meet
                exact ⟨v, vt, vs, vn, T, LS, TL, ⟨HM2.out.tw.mono (by omega), HM2.out.rf.mono (by omega)⟩, HG2.out⟩
            · as_aux_lemma =>
              have hb1 : (wc.drew).cell? ⟨B, 1, none⟩ = some (.int .i64 N) ∧ (wc.drew).cell? ⟨B, 2, none⟩ = some (.slice la l' lc) := ⟨HM.out.op.cell 1, HM.out.op.cell 2⟩
              obtain ⟨q, hq⟩ : ∃ q, q = N.tmod 61 := ⟨_, rfl⟩
              have hq1 : -61 < q ∧ q < 61 := by
                have h1 := Int.tmod_lt_of_pos N (b := 61) (by omega)
                have h2 := Int.lt_tmod_of_pos N (b := 61) (by omega)
                omega
              have hfm := fun (wx : World) (F : Fr (fun _ => False) w wx) => HRL.out.below (F.below (Nat.le_refl _) (fun _ _ h => h))
              obtain ⟨r, T', hr⟩ : ∃ r T', runT (TL.map tellP) L' q.toNat 0 T = (r, T') := ⟨_, _, rfl⟩
              have hrt : ∀ wx Tr N2, Mid wx P R v vt vs vn T Tr LS TL (100 * (j : Int)) N2 B [.int .i64 kind, .int .i64 N, .slice la l' lc] → Fr (fun _ => False) w wx → Calls Try.prog 17 #[.pointer (some ⟨P, 0, none⟩), .int .i64 (N.tmod 61), .slice la l' lc] wx fun e w' => e = .returned (.int .i64 r) ∧ Mid w' P R v vt vs vn T' Tr LS TL (100 * (j : Int) + 70) N2 B [.int .i64 kind, .int .i64 N, .slice la l' lc] ∧ Fr (fun _ => False) w w' := fun wx Tr N2 hm F => by
                rw [← hq]
                refine (m_runT hm q la l' lc L' (hfm wx F) HLOW.out (by omega) (by omega) (by omega)).mono ?_
                rintro e w' ⟨rfl, hm', F'⟩
                rw [hr] at hm' ⊢
                exact ⟨rfl, ⟨hm'.tw.mono (by omega), hm'.rf, hm'.op⟩, F.step F' (fun k hk => .inr (by omega))⟩
              have hrr : ∀ wx Tt N1, Mid wx P R v vt vs vn Tt T LS TL N1 (100 * (j : Int)) B [.int .i64 kind, .int .i64 N, .slice la l' lc] → Fr (fun _ => False) w wx → Calls Try.prog 22 #[.pointer (some ⟨R, 0, none⟩), .int .i64 (N.tmod 61), .slice la l' lc] wx fun e w' => e = .returned (.int .i64 r) ∧ Mid w' P R v vt vs vn Tt T' LS TL N1 (100 * (j : Int) + 70) B [.int .i64 kind, .int .i64 N, .slice la l' lc] ∧ Fr (fun _ => False) w w' := fun wx Tt N1 hm F => by
                rw [← hq]
                refine (m_runR hm q la l' lc L' (hfm wx F) HLOW.out (by omega) (by omega) (by omega)).mono ?_
                rintro e w' ⟨rfl, hm', F'⟩
                rw [hr] at hm' ⊢
                exact ⟨rfl, ⟨hm'.tw, hm'.rf.mono (by omega), hm'.op⟩, F.step F' (fun k hk => .inr (by omega))⟩
              have hmd := HM.out.fr0 ((Fr.refl (fun _ => False) wc).drew)
              have hgd := HGC.out.drew
              have HRT := Lib.hid hrt
              have HRR := Lib.hid hrr
              have HMD := Lib.hid hmd
              have HGD := Lib.hid hgd
              clear hrt hrr hfm hr hq hmd hgd hq1
              go_wp2_with fail
              go_region_held3 (fun w' => w'.cell? ⟨B, 1, none⟩ = some (.int .i64 N) ∧ w'.cell? ⟨B, 2, none⟩ = some (.slice la l' lc))
                (first | assumption | exact hb1 | exact ⟨HMA.out.op.cell 1, HMA.out.op.cell 2⟩ | exact ⟨HMB.out.op.cell 1, HMB.out.op.cell 2⟩ | exact ⟨HMZ.out.op.cell 1, HMZ.out.op.cell 2⟩)
                (first
                  | (go_at_call 17; refine (HRT.out _ _ _ HMD.out HGD.out).mono ?_; rintro e w' ⟨rfl, hMa, hFa⟩; have HMA := Lib.hid hMa; have HFA := Lib.hid hFa; clear hMa hFa)
                  | (go_at_call 17; refine (HRT.out _ _ _ HMB.out HFB.out).mono ?_; rintro e w' ⟨rfl, hMa, hFa⟩; have HMZ := Lib.hid hMa; have HFZ := Lib.hid hFa; clear hMa hFa)
                  | (go_at_call 22; refine (HRR.out _ _ _ HMD.out HGD.out).mono ?_; rintro e w' ⟨rfl, hMb, hFb⟩; have HMB := Lib.hid hMb; have HFB := Lib.hid hFb; clear hMb hFb)
                  | (go_at_call 22; refine (HRR.out _ _ _ HMA.out HFA.out).mono ?_; rintro e w' ⟨rfl, hMb, hFb⟩; have HMZ := Lib.hid hMb; have HFZ := Lib.hid hFb; clear hMb hFb))
              all_goals
                go_wp2
                go_meet
                exact ⟨v, vt, vs, vn, T', LS, TL, ⟨HMZ.out.tw.mono (by omega), HMZ.out.rf.mono (by omega)⟩, HFZ.out⟩
            · as_aux_lemma =>
              have hb1 : wc.cell? ⟨B, 1, none⟩ = some (.int .i64 N) := HM.out.op.cell 1
              have hp1 := m_pickT HM.out N HI2.out (by omega)
              have HP1 := Lib.hid hp1
              have hp2 := fun w' (T1 : List Tk) (N1 : Int) (h : Mid w' P R v vt vs vn T1 T LS TL N1 (100 * (j : Int)) B [.int .i64 kind, .int .i64 N, .slice la l' lc]) => m_pickR h N HI2.out (by omega)
              have HP2 := Lib.hid hp2
              clear hp1 hp2
              go_wp2_with fail
              refine HP1.out.mono ?_
              rintro e w1 ⟨rfl, hM1, F1⟩
              have hb1 : w1.cell? ⟨B, 1, none⟩ = some (.int .i64 N) := hM1.op.cell 1
              have HP2 := Lib.hid (HP2.out _ _ _ hM1)
              have HGa := Lib.hid (HGC.out.step F1 (fun k hk => .inr (by omega)))
              clear hM1 F1
              go_wp2_with fail
              refine HP2.out.mono ?_
              rintro e w2 ⟨rfl, hM2, F2⟩
              have HGb := Lib.hid (HGa.out.step F2 (fun k hk => .inr (by omega)))
              have hB2 : Both w2 P R v vt vs vn (pickT (TL.map tellP) T N) LS TL (100 * (j : Int) + 99) := ⟨hM2.tw.mono (by omega), hM2.rf.mono (by omega)⟩
              have HB2 := Lib.hid hB2
              clear hM2 F2 hB2
              go_wp2
              go_meet
              exact ⟨_, _, _, _, _, _, _, HB2.out, HGb.out⟩
          case rest =>
            as_aux_lemma =>
            obtain ⟨v, vt, vs, vn, T, LS, TL, hB2, hG2⟩ := hcut
            clear HM HRL HLOW HGC HI1 HI2
            have hlen := hB2.rf.len
            obtain ⟨as_, caps, es, -⟩ := owns_rd hB2.rf.st
            have hR1 : wc.cell? ⟨R, 1, none⟩ = some (.slice as_ T.length caps) := by rw [← es]; exact hB2.rf.str.cell 1
            have hrd : ∀ q, q < T.length → ∃ gs cs' gn cn s m, as_ = some ⟨gs, 0, none⟩ ∧ caps = cs' ∧ wc.cell? ⟨gs, q, none⟩ = some (.int .i64 s) ∧ wc.cell? ⟨R, 2, none⟩ = some (.slice (some ⟨gn, 0, none⟩) T.length cn) ∧ wc.cell? ⟨gn, q, none⟩ = some (.int .i64 m) ∧ stT T ((q : Int) + 1) = s ∧ nT T ((q : Int) + 1) = m ∧ ((T.take (q + 1)).any (fun t => t.st == 1) = ((T.take q).any (fun t => t.st == 1) || (s == 1))) := fun q hq => by
              have ht : T[q]? = some T[q] := List.getElem?_eq_getElem hq
              obtain ⟨gs, c1, e1, k1⟩ := hB2.rf.stAt ht
              obtain ⟨gn, c2, e2, k2⟩ := hB2.rf.snAt ht
              have h2 : wc.cell? ⟨R, 2, none⟩ = some vn := hB2.rf.str.cell 2
              rw [e2] at h2
              rw [es] at e1
              injection e1 with e1 _ e3
              refine ⟨gs, c1, gn, c2, T[q].st, T[q].n, e1, e3, k1, h2, k2, stT_at T q _ ht, nT_at2 T q _ ht, ?_⟩
              have e9 : T.take (q + 1) = T.take q ++ [T[q]] := by rw [List.take_add_one, ht]; rfl
              rw [e9, List.any_append, List.any_cons, List.any_nil, Bool.or_false]
            have hst : ∀ w' k r, Fr (fun _ => False) wc w' → stT T k = r → Calls Try.prog 14 #[.pointer (some ⟨P, 0, none⟩), .int .i64 k] w' fun e w'' => e = .returned (.int .i64 r) ∧ w' = w'' := fun w' k r F e => c_StateX (hB2.fr0 F).tw k r e
            have hsn : ∀ w' k r, Fr (fun _ => False) wc w' → nT T k = r → Calls Try.prog 15 #[.pointer (some ⟨P, 0, none⟩), .int .i64 k] w' fun e w'' => e = .returned (.int .i64 r) ∧ w' = w'' := fun w' k r F e => c_StepsX (hB2.fr0 F).tw k r e
            obtain ⟨hrr1, hrr2⟩ := rdy_rng T hlen
            have hend : ∃ aw, (T.take T.length).any (fun t => t.st == 1) = aw ∧ stuckB T = (decide (rdy T = []) && aw) := ⟨_, rfl, by rw [List.take_length]; rfl⟩
            obtain ⟨aw, haw, hstk⟩ := hend
            have HRD := Lib.hid hrd
            have HST := Lib.hid hst
            have HSN := Lib.hid hsn
            have HB2 := Lib.hid hB2
            have HG2 := Lib.hid hG2
            have HR1 := Lib.hid hrr1
            have HR2 := Lib.hid hrr2
            have HAW := Lib.hid haw
            have HSTK := Lib.hid hstk
            clear hrd hst hsn hB2 hG2 hrr1 hrr2 haw hstk es
            have htk : ∀ q, (T.take q).any (fun t => t.st == 1) = (T.take q).any (fun t => t.st == 1) := fun _ => rfl
            clear htk
            obtain ⟨AN, hAN⟩ : ∃ AN : Nat → Bool, AN = fun q => (T.take q).any (fun t => t.st == 1) := ⟨_, rfl⟩
            have hA0 : AN 0 = false := by rw [hAN]; rfl
            have hA1 : AN T.length = aw := by rw [hAN]; exact HAW.out
            have hrd2 : ∀ q, q < T.length → ∃ gs gn cn s m, as_ = some ⟨gs, 0, none⟩ ∧ wc.cell? ⟨gs, q, none⟩ = some (.int .i64 s) ∧ wc.cell? ⟨R, 2, none⟩ = some (.slice (some ⟨gn, 0, none⟩) T.length cn) ∧ wc.cell? ⟨gn, q, none⟩ = some (.int .i64 m) ∧ stT T ((q : Int) + 1) = s ∧ nT T ((q : Int) + 1) = m ∧ AN (q + 1) = (AN q || (s == 1)) := fun q hq => by
              obtain ⟨gs, c1, gn, c2, s, m, e1, e2, k1, k2, k3, k4, k5, k6⟩ := HRD.out q hq
              exact ⟨gs, gn, c2, s, m, e1, k1, k2, k3, k4, k5, by rw [hAN]; exact k6⟩
            have HRD2 := Lib.hid hrd2
            have HA0 := Lib.hid hA0
            have HA1 := Lib.hid hA1
            clear hrd2 hA0 hA1 hAN HRD HAW
            obtain ⟨nt, hnt⟩ : ∃ nt, nt = T.length := ⟨_, rfl⟩
            rw [← hnt] at hR1 HRD2 HA1 hlen
            clear hnt
            go_wp2_with fail
            go_loopw [19, 20] (fun ws jj wx => ∃ q : Nat, jj = .int .i64 ((q : Int) + 1) ∧ q ≤ nt ∧ ws = .bool (AN q) ∧ Fr (fun _ => False) wc wx) (fun _ jj _ => (nt + 5 - intOf jj).toNat)
            case atStart => exact ⟨0, rfl, by omega, by rw [HA0.out], Fr.refl _ _⟩
            case round =>
              obtain ⟨q, rfl, hq, rfl, Gx⟩ := hrel
              have hR1x := Gx.cell hR1 (fun h => h)
              by_cases hqn : q < nt
              · as_aux_lemma =>
                obtain ⟨gs, gn, cn, s, m, rfl, k1, k2, k3, k4, k5, k6⟩ := HRD2.out q hqn
                have hk1 := Gx.cell k1 (fun h => h)
                have hk2 := Gx.cell k2 (fun h => h)
                have hk3 := Gx.cell k3 (fun h => h)
                have hk4 : (wr.drew).cell? ⟨R, 1, none⟩ = some (.slice (some ⟨gs, 0, none⟩) nt caps) ∧ (wr.drew).cell? ⟨R, 2, none⟩ = some (.slice (some ⟨gn, 0, none⟩) nt cn) ∧ (wr.drew).cell? ⟨gs, q, none⟩ = some (.int .i64 s) ∧ (wr.drew).cell? ⟨gn, q, none⟩ = some (.int .i64 m) := ⟨hR1x, hk2, hk1, hk3⟩
                have HS := Lib.hid (HST.out wr.drew _ s Gx.drew k4)
                have HN2 := Lib.hid (HSN.out wr.drew _ m Gx.drew k5)
                have HK6 := Lib.hid k6
                clear k4 k5 k6 k1 k2 k3
                have hi1 : (0 : Int) ≤ (q : Int) := by omega
                have hi2 : (q : Int) < (nt : Int) := by omega
                have hwr1 : IntKind.i64.wrap (q : Int) = q := (IntWalk.i64_left _).trans (by unfold wrap64; omega)
                have hwr2 : IntKind.i64.wrap ((q : Int) + 1 - 1) = q := (IntWalk.i64_left _).trans (by unfold wrap64; omega)
                generalize hbq : AN q = bq at *
                have HBQ := Lib.hid hbq
                clear hbq
                go_wp2_with (go_region_held3 (fun w' => w'.cell? ⟨R, 1, none⟩ = some (.slice (some ⟨gs, 0, none⟩) nt caps) ∧ w'.cell? ⟨R, 2, none⟩ = some (.slice (some ⟨gn, 0, none⟩) nt cn) ∧ w'.cell? ⟨gs, q, none⟩ = some (.int .i64 s) ∧ w'.cell? ⟨gn, q, none⟩ = some (.int .i64 m))
                  (first | assumption | exact hk4)
                  (first
                    | (go_at_call 14; refine HS.out.mono ?_; rintro e w' ⟨rfl, rfl⟩)
                    | (go_at_call 15; refine HN2.out.mono ?_; rintro e w' ⟨rfl, rfl⟩)))
                all_goals
                  go_roundw
                  case rel => exact ⟨q + 1, by go_num, by omega, by rw [HK6.out]; simp [*], Gx.drew⟩
                  case measure => simp [intOf]; omega
              · as_aux_lemma =>
                have hqn2 : q = nt := by omega
                subst hqn2
                rw [HA1.out]
                have hBx := HB2.out.fr0 Gx
                have hr1 := r_Ready hBx.rf
                have HQ1 := Lib.hid hr1
                have hq2 := fun w' (F : Fr (fun _ => False) wr w') => c_Ready P P v T w' (hBx.fr0 F).tw.tu
                have HQ2 := Lib.hid hq2
                have hq3 := fun w' (F : Fr (fun _ => False) wr w') => c_Stuck P P v T w' (hBx.fr0 F).tw.tu
                rw [HSTK.out] at hq3
                have HQ3 := Lib.hid hq3
                have hfin : ∀ w', Fr (fun _ => False) wr w' → Both w' P R v vt vs vn T LS TL (100 * ((j + 1 : Nat) : Int)) ∧ Fr (fun _ => False) w w' := fun w' F => ⟨(hBx.fr0 F).mono (by omega), (HG2.out.trans Gx).trans F⟩
                have HFIN := Lib.hid hfin
                obtain ⟨nr, hnr⟩ : ∃ nr, nr = (rdy T).length := ⟨_, rfl⟩
                have hrn : decide (rdy T = []) = decide (nr = 0) := by
                  rw [hnr]
                  by_cases h : rdy T = []
                  · rw [decide_eq_true h, h]; rfl
                  · rw [decide_eq_false h, decide_eq_false (fun e => h (List.eq_nil_of_length_eq_zero e))]
                rw [hrn] at HQ3
                have hnr128 : nr ≤ 1000 := by rw [hnr]; exact HR2.out
                have HNR := Lib.hid hnr
                clear hr1 hq2 hq3 hfin hBx hnr hrn hR1
                go_wp2_with fail
                refine HQ1.out.mono ?_
                rintro e wy ⟨v1, rfl, hv1, F1⟩
                obtain ⟨x1, cx1, rfl, hrd1⟩ := own_rdI hv1 rfl HR1.out HR2.out
                rw [← HNR.out] at hrd1 ⊢
                have HF1 := Lib.hid F1
                have HRX1 := Lib.hid hrd1
                clear hv1 F1 hrd1
                go_wp2_with fail
                refine (HQ2.out _ HF1.out).mono ?_
                rintro e wz ⟨v2, rfl, hv2, F2⟩
                obtain ⟨x2, cx2, rfl, hrd2⟩ := own_rdI hv2 rfl HR1.out HR2.out
                rw [← HNR.out] at hrd2 ⊢
                have hsame := c_same x2 nr cx2 x1 nr cx1 (rdy T) wz hrd2 (HRX1.out.below (F2.below (Nat.le_refl _) (fun _ _ h => h)))
                have HF2 := Lib.hid (HF1.out.trans F2)
                have HSM := Lib.hid hsame
                clear hv2 F2 hrd2 hsame
                go_wp2_with fail
                refine HSM.out.mono ?_
                rintro e wu ⟨rfl, F3⟩
                have HF3 := Lib.hid (HF2.out.trans F3)
                clear F3
                go_wp2_with fail
                refine (HQ3.out _ HF3.out).mono ?_
                rintro e wv ⟨rfl, F4⟩
                have HF4 := Lib.hid (HF3.out.trans F4)
                clear F4
                by_cases hz : nr = 0
                · rw [decide_eq_true hz] at *
                  subst hz
                  cases aw
                  all_goals
                    go_wp2
                    go_roundw
                    case rel => exact ⟨j + 1, v, vt, vs, vn, T, LS, TL, by go_num, by omega, by omega, (HFIN.out _ HF4.out).1, (HFIN.out _ HF4.out).2⟩
                    case measure => simp [intOf]; omega
                · rw [decide_eq_false hz] at *
                  go_wp2
                  go_roundw
                  case rel => exact ⟨j + 1, v, vt, vs, vn, T, LS, TL, by go_num, by omega, by omega, (HFIN.out _ HF4.out).1, (HFIN.out _ HF4.out).2⟩
                  case measure => simp [intOf]; omega
    · have hex2 : n0 ≤ j ∨ (j < n0 ∧ 100 ≤ j) := by omega
      have HBL := Lib.hid (HG.out.below (Nat.le_refl _) (fun _ _ h => h))
      rcases hex2 with hex2 | ⟨hex2, hex3⟩
      all_goals
        go_wp2
        go_ret
        exact ⟨rfl, HBL.out⟩
end Go.Proofs.Ythpghoafjpbdbaa
