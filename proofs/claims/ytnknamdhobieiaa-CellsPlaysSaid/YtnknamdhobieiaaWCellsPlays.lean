/- CellsPlays, the walk: words are loaded, stored, swapped, added to, put and copied, call by call, as the document says. -/
import Derived.Test.YtnknamdhobieiaaWCellsApart
import Derived.Test.YtnknamdhobieiaaRef4
import Derived.Deep.DeepCutAuto
import Derived.Deep.RegionHeld3
namespace Go.Proofs.Ytnknamdhobieiaa
open Go.RowKit Go.HK
set_option maxRecDepth 100000

theorem RdS.op {w0 w : World} {a : Option Addr} {n : Nat} {S : List OpV} (h : RdS 5 (Qop w0) w a n S) {i : Nat} {o : OpV} (hc : S[i]? = some o) :
    ∃ b off, a = some ⟨b, off, none⟩ ∧ b < w.heap.size ∧ w.cell? ⟨b, off + i * 5, none⟩ = some (.int .i64 o.kind) ∧ w.cell? ⟨b, off + i * 5 + 1, none⟩ = some (.int .i64 o.at_) ∧
      w.cell? ⟨b, off + i * 5 + 2, none⟩ = some (.int .i64 o.old) ∧ w.cell? ⟨b, off + i * 5 + 3, none⟩ = some (.int .i64 o.new) ∧ w.cell? ⟨b, off + i * 5 + 4, none⟩ = some (.slice o.la o.ln o.lc) ∧
      I64 o.kind ∧ I64 o.at_ ∧ I64 o.old ∧ I64 o.new ∧ RdI .i64 w0 o.la o.ln o.L := by
  have hi : i < S.length := by
    rcases Nat.lt_or_ge i S.length with h' | h'
    · exact h'
    · simp [h'] at hc
  obtain ⟨b, off, e, hlt, hcs⟩ := h.at_ (by rw [← h.hlen]; omega)
  obtain ⟨cs, _, ⟨rfl, r1, r2, r3, r4, r5⟩, hcell⟩ := hcs i o hc
  exact ⟨b, off, e, hlt, hcell 0 _ rfl, hcell 1 _ rfl, hcell 2 _ rfl, hcell 3 _ rfl, hcell 4 _ rfl, r1, r2, r3, r4, r5⟩

/-- what a call's kind says: its rest by seven -/
theorem kind7 (z : Int) : ∃ K : Nat, K ≤ 6 ∧ ((-7 < z.tmod 7 ∧ z.tmod 7 < 0 ∧ z.tmod 7 + 7 = K) ∨ (¬ z.tmod 7 < 0 ∧ z.tmod 7 = K)) := by
  have h4 := Int.tmod_lt_of_pos z (b := 7) (by omega)
  have h5 := Int.lt_tmod_of_pos z (b := 7) (by omega)
  by_cases h1 : z.tmod 7 < 0
  · exact ⟨(z.tmod 7 + 7).toNat, by omega, .inl ⟨by omega, h1, by omega⟩⟩
  · exact ⟨(z.tmod 7).toNat, by omega, .inr ⟨h1, by omega⟩⟩

theorem rdI_rdC {w : World} {a : Option Addr} {n : Nat} {L : List Int} (h : RdI .i64 w a n L) : RdC w a n L := ⟨h.hlen, h.at_⟩
theorem row_rdC {w : World} {q : Nat} {W : List Int} (h : Blk w q 2 (W.map (.int .i64))) : RdC w (some ⟨q, 0, none⟩) W.length W :=
  ⟨rfl, fun _ => ⟨q, 0, rfl, h.lt, fun i hi => by rw [Nat.zero_add, h.cell]; simp [hi]⟩⟩
theorem wds_full {W : List Int} (h : W.length ≤ 65536) : wds W 0 65536 = W := by
  have : hiN W 65536 = W.length := by unfold hiN; split <;> omega
  unfold wds
  rw [this]
  simp [loN]

def two (p q p' q' : Nat) : Nat → Prop := fun k => foot p q k ∨ foot p' q' k

set_option maxHeartbeats 6400000 in
theorem walk_CellsPlays (a0 : Int) (a1 : Option Addr) (n1 c1 : Nat) (S1 : List OpV) (w : World) (w0 : (Lit.int .i64 a0).wf = true) (w1 : RdS 5 (Qop w) w a1 n1 S1) :
    Calls Try.prog 3 #[.int .i64 a0, .slice a1 n1 c1] w fun e w' => e = .returned (.bool true) ∧ Below w.heap.size w w' := by
  have hn := w1.le
  unfold maxLen at hn
  have hl1 := w1.hlen
  have HL1 := Lib.hid hl1
  have W1 := Lib.hid w1
  clear w0 w1 hl1
  go_enter Try.func3, Try.ntmps3
  go_wp2_with fail
  refine (awake_true w).mono ?_
  rintro e w' ⟨rfl, f0⟩
  go_wp2_with fail
  refine (c_New a0 w').mono ?_
  rintro e wa ⟨rfl, h1, f1⟩
  have hs0 := f0.size
  have hs1 := h1.str.lt
  go_wp2_with fail
  refine (r_New a0 wa).mono ?_
  rintro e wb ⟨rfl, h2, f2⟩
  have h1 := h1.fr f2 (fun h => h) (fun h => h)
  have G0 : Fr (two (w'.heap.size + 1) w'.heap.size (wa.heap.size + 1) wa.heap.size) w wb := ((f0.trans f1).trans f2).mono (fun _ _ h => h.elim)
  have hlen : (List.replicate (clampN a0) (0 : Int)).length ≤ 65536 := by have := clampN_le a0; simpa using this
  have hne : ∀ k, foot (w'.heap.size + 1) w'.heap.size k → ¬ foot (wa.heap.size + 1) wa.heap.size k := by rintro k (rfl | rfl) (h | h) <;> omega
  have hge : ∀ k, k < w.heap.size → ¬ two (w'.heap.size + 1) w'.heap.size (wa.heap.size + 1) wa.heap.size k := by rintro k hk ((rfl | rfl) | (rfl | rfl)) <;> omega
  generalize w'.heap.size + 1 = p at *
  generalize w'.heap.size = q at *
  generalize wa.heap.size + 1 = p' at *
  generalize wa.heap.size = q' at *
  clear f0 f1 f2 hs0 hs1
  generalize List.replicate (clampN a0) (0 : Int) = Z at *
  have hcd := h1.drew
  have hld := h2.str.cell 0
  have HC := Lib.hid hcd
  have H1 := Lib.hid h1
  have H2 := Lib.hid h2
  clear hcd h1 h2
  go_wp2_with (go_region_held3 (fun w' => w'.cell? ⟨p', 0, none⟩ = some (.slice (some ⟨q', 0, none⟩) Z.length Z.length))
    (first | assumption | exact hld)
    (first
      | (go_at_call 12; refine (c_Len p q Z 0 _ HC.out).mono ?_; rintro e w' ⟨rfl, rfl⟩)))
  have G1 := G0.drew
  have h1 := HC.out
  have h2 := H2.out.drew
  generalize wb.drew = wc at *
  clear H1 H2 HC hld G0
  go_loopw [8] (fun i wr => ∃ (k : Nat) (W : List Int) (n : Int), i = .int .i64 k ∧ k ≤ 200 ∧ k ≤ n1 ∧ IsCells wr p q W n ∧ IsRef wr p' q' W n ∧ Fr (two p q p' q') w wr) (fun i _ => 200 - (intOf i).toNat)
  case atStart => exact ⟨0, Z, 0, rfl, by omega, by omega, h1, h2, G1⟩
  case round =>
    obtain ⟨k, W, n, rfl, hk, hk1, hc, hr, G⟩ := hrel
    clear h1 h2 G1 hlen
    have hcO := hc
    have hrO := hr
    by_cases hlt : k < n1 ∧ k < 200
    · obtain ⟨hlt, hlt2⟩ := hlt
      have hkl : k < S1.length := by rw [HL1.out]; exact hlt
      obtain ⟨o, ho⟩ : ∃ o, S1[k]? = some o := ⟨_, List.getElem?_eq_getElem hkl⟩
      obtain ⟨b, off, rfl, hb, e0, e1, e2, e3, e4, r0, r1, r2, r3, r4⟩ := W1.out.op ho
      have hbn := hge b hb
      have e0 := G.cell2 e0 hbn
      have e1 := G.cell2 e1 hbn
      have e2 := G.cell2 e2 hbn
      have e3 := G.cell2 e3 hbn
      have e4 := G.cell2 e4 hbn
      obtain ⟨K, hK6, hK⟩ := kind7 o.kind
      obtain ⟨kind, at_, old, new, la, ln, lc, L⟩ := o
      simp only at e0 e1 e2 e3 e4 r0 r1 r2 r3 r4 hK
      have HK := Lib.hid hK
      have R0 := Lib.hid r0
      have R1 := Lib.hid r1
      have R2 := Lib.hid r2
      have R3 := Lib.hid r3
      have R4 := Lib.hid r4
      have hblk := Blk.new wr 33 [.int .i64 kind, .int .i64 at_, .int .i64 old, .int .i64 new, .slice la ln lc]
      have HBK := Lib.hid hblk
      clear r0 r1 r2 r3 r4 hK hblk ho
      have hc := hc.alloc (.cells #[.int .i64 kind, .int .i64 at_, .int .i64 old, .int .i64 new, .slice la ln lc] 33)
      have hr := hr.alloc (.cells #[.int .i64 kind, .int .i64 at_, .int .i64 old, .int .i64 new, .slice la ln lc] 33)
      have hpl := hc.str.lt
      have hGa := G.alloc (.cells #[.int .i64 kind, .int .i64 at_, .int .i64 old, .int .i64 new, .slice la ln lc] 33)
      have hBB : ¬ two p q p' q' wr.heap.size := by
        have h1 := hcO.str.lt
        have h2 := hcO.row.lt
        have h3 := hrO.str.lt
        have h4 := hrO.row.lt
        rintro ((h | h) | (h | h)) <;> omega
      have hBw := G.size
      clear hcO hrO G
      have HC := Lib.hid hc
      have HR := Lib.hid hr
      clear hc hr
      go_upto_region 10 with fail
      have hb0 := HBK.out.cell 0
      have hb1 := HBK.out.cell 1
      have hb2 := HBK.out.cell 2
      have hb3 := HBK.out.cell 3
      have hb4 := HBK.out.cell 4
      clear HBK e0 e1 e2 e3 e4
      generalize wr.alloc (.cells #[.int .i64 kind, .int .i64 at_, .int .i64 old, .int .i64 new, .slice la ln lc] 33) = wx at *
      generalize wr.heap.size = B at *
      go_upto_if 62 with fail
      go_cut [10] (fun s wy => s = .int .i64 K ∧ wy = wx)
      case first =>
        rcases HK.out with ⟨h4, h5, h6⟩ | ⟨h5, h6⟩
        all_goals
          have H6 := Lib.hid h6
          clear HK h6
          generalize kind.tmod 7 = t at *
          go_wp2
          go_meet
          exact ⟨congrArg (Value.int .i64) H6.out, rfl⟩
      case rest =>
        obtain ⟨rfl, rfl⟩ := hcut
        have hBp : ¬ foot p q B := fun h => hBB (.inl h)
        have hBp' : ¬ foot p' q' B := fun h => hBB (.inr h)
        have hnp : ¬ foot p q p' := fun h => hne p' h (.inl rfl)
        have hnq : ¬ foot p q q' := fun h => hne q' h (.inr rfl)
        have hK : K = 0 ∨ K = 3 ∨ K = 4 ∨ K = 5 ∨ K = 6 ∨ (K = 1 ∨ K = 2) := by omega
        clear HK hK6
        rcases hK with rfl | rfl | rfl | rfl | rfl | hK
        · as_aux_lemma =>
          go_wp2_with fail
          refine (c_Load p q W n at_ _ HC.out).mono ?_
          rintro e wd ⟨rfl, h1, f1⟩
          have hb1 := f1.cell2 hb1 hBp
          have hb2 := f1.cell2 hb2 hBp
          have hb3 := f1.cell2 hb3 hBp
          have h2 := HR.out.fr f1 hnp hnq
          have G1 := hGa.step f1 (fun i hi => .inl (.inl hi))
          clear f1
          go_wp2_with fail
          refine (r_Load p' q' W n at_ _ h2).mono ?_
          rintro e we ⟨rfl, h2, f2⟩
          generalize ldV W at_ = v at *
          generalize okE W at_ = er at *
          generalize stp W at_ n = n' at *
          have G2 := G1.step f2 (fun i hi => .inl (.inr hi))
          have h1 := h1.fr f2 (hne p (.inl rfl)) (hne q (.inr rfl))
          clear G1 f2 HC HR hb0 hb1 hb2 hb3 hb4
          have hcd := h1.drew
          have hrd := h2.str.cell 1
          have HCD := Lib.hid hcd
          have HRr := Lib.hid h2
          have GG := Lib.hid G2
          clear hcd h1 h2 G2
          go_wp2_with (go_region_held3 (fun w' => w'.cell? ⟨p', 1, none⟩ = some (.int .i64 n')) (first | assumption | exact hrd)
            (first | (go_at_call 26; refine (c_Steps p q _ n' _ HCD.out).mono ?_; rintro e w' ⟨rfl, rfl⟩)))
          go_roundw
          case rel => exact ⟨k + 1, _, n', by go_num, by omega, by omega, HCD.out, HRr.out.drew, GG.out.drew⟩
          case measure => simp [intOf]; omega
        · as_aux_lemma =>
          go_wp2_with fail
          refine (c_Swap p q W n at_ old new _ HC.out).mono ?_
          rintro e wd ⟨rfl, h1, f1⟩
          have hb1 := f1.cell2 hb1 hBp
          have hb2 := f1.cell2 hb2 hBp
          have hb3 := f1.cell2 hb3 hBp
          have h2 := HR.out.fr f1 hnp hnq
          have G1 := hGa.step f1 (fun i hi => .inl (.inl hi))
          clear f1
          go_wp2_with fail
          refine (r_Swap p' q' W n at_ old new _ h2).mono ?_
          rintro e we ⟨rfl, h2, f2⟩
          generalize swB W at_ old = v at *
          generalize okE W at_ = er at *
          generalize stp W at_ n = n' at *
          generalize swW W at_ old new = W1 at *
          have G2 := G1.step f2 (fun i hi => .inl (.inr hi))
          have h1 := h1.fr f2 (hne p (.inl rfl)) (hne q (.inr rfl))
          clear G1 f2 HC HR hb0 hb1 hb2 hb3 hb4
          have hcd := h1.drew
          have hrd := h2.str.cell 1
          have HCD := Lib.hid hcd
          have HRr := Lib.hid h2
          have GG := Lib.hid G2
          clear hcd h1 h2 G2
          go_wp2_with (go_region_held3 (fun w' => w'.cell? ⟨p', 1, none⟩ = some (.int .i64 n')) (first | assumption | exact hrd)
            (first | (go_at_call 26; refine (c_Steps p q _ n' _ HCD.out).mono ?_; rintro e w' ⟨rfl, rfl⟩)))
          go_roundw
          case rel => exact ⟨k + 1, _, n', by go_num, by omega, by omega, HCD.out, HRr.out.drew, GG.out.drew⟩
          case measure => simp [intOf]; omega
        · as_aux_lemma =>
          go_wp2_with fail
          refine (c_Add p q W n at_ new _ HC.out).mono ?_
          rintro e wd ⟨rfl, h1, f1⟩
          have hb1 := f1.cell2 hb1 hBp
          have hb2 := f1.cell2 hb2 hBp
          have hb3 := f1.cell2 hb3 hBp
          have h2 := HR.out.fr f1 hnp hnq
          have G1 := hGa.step f1 (fun i hi => .inl (.inl hi))
          clear f1
          go_wp2_with fail
          refine (r_Add p' q' W n at_ new _ h2).mono ?_
          rintro e we ⟨rfl, h2, f2⟩
          generalize ldV W at_ = v at *
          generalize okE W at_ = er at *
          generalize stp W at_ n = n' at *
          generalize adW W at_ new = W1 at *
          have G2 := G1.step f2 (fun i hi => .inl (.inr hi))
          have h1 := h1.fr f2 (hne p (.inl rfl)) (hne q (.inr rfl))
          clear G1 f2 HC HR hb0 hb1 hb2 hb3 hb4
          have hcd := h1.drew
          have hrd := h2.str.cell 1
          have HCD := Lib.hid hcd
          have HRr := Lib.hid h2
          have GG := Lib.hid G2
          clear hcd h1 h2 G2
          go_wp2_with (go_region_held3 (fun w' => w'.cell? ⟨p', 1, none⟩ = some (.int .i64 n')) (first | assumption | exact hrd)
            (first | (go_at_call 26; refine (c_Steps p q _ n' _ HCD.out).mono ?_; rintro e w' ⟨rfl, rfl⟩)))
          go_roundw
          case rel => exact ⟨k + 1, _, n', by go_num, by omega, by omega, HCD.out, HRr.out.drew, GG.out.drew⟩
          case measure => simp [intOf]; omega
        · as_aux_lemma =>
          have hln : ln ≤ 9223372036854775807 := by have := R4.out.le; unfold maxLen at this; omega
          have hnb : 0 < ln → ∀ b off, la = some ⟨b, off, none⟩ → b ≠ q' := by
            intro h0 b off e
            obtain ⟨b', off', e', hb', _⟩ := R4.out.at_ h0
            rw [e'] at e
            cases e
            rintro rfl
            exact hge _ hb' (.inr (.inr rfl))
          have hre := (R4.out.below ((hGa.drew).below (Nat.le_refl _) hge)).reads
          have HRe := Lib.hid hre
          clear hre
          have hcd := HC.out.drew
          have hrd := HR.out.drew
          have Gd := hGa.drew
          have HCd := Lib.hid hcd
          have HRd := Lib.hid hrd
          clear hcd hrd
          go_wp2_with (go_region_held3 (fun w' => w'.cell? ⟨B, 1, none⟩ = some (.int .i64 at_) ∧ w'.cell? ⟨B, 4, none⟩ = some (.slice la ln lc))
            (first | assumption | exact ⟨hb1, hb4⟩ | exact ⟨f2.cell2 (f1.cell2 hb1 hBp) hBp', f2.cell2 (f1.cell2 hb4 hBp) hBp'⟩ | exact ⟨f1.cell2 hb1 hBp, f1.cell2 hb4 hBp⟩)
            (first
              | (go_at_call 19; refine (c_Put p q W n at_ la ln lc L _ HCd.out HRe.out hln).mono ?_; rintro e wd ⟨rfl, h1, f1⟩)
              | (go_at_call 20; refine (r_Put p' q' W n at_ la ln lc L _ (HRd.out.fr f1 hnp hnq) (rdI_rdC (R4.out.below ((Gd.step f1 (fun i hi => .inl (.inl hi))).below (Nat.le_refl _) hge))) hln hnb).mono ?_; rintro e we ⟨rfl, h2, f2⟩)))
          have G2 := (Gd.step f1 (fun i hi => .inl (.inl hi))).step f2 (fun i hi => .inl (.inr hi))
          have h1 := h1.fr f2 (hne p (.inl rfl)) (hne q (.inr rfl))
          clear Gd f1 f2 HC HR HCd HRd HRe hb0 hb1 hb2 hb3 hb4
          generalize hn' : n = n' at *
          have hcd := h1.drew
          have hrd := h2.str.cell 1
          have HCD := Lib.hid hcd
          have HRr := Lib.hid h2
          have GG := Lib.hid G2
          clear hcd h1 h2 G2
          go_wp2_with (go_region_held3 (fun w' => w'.cell? ⟨p', 1, none⟩ = some (.int .i64 n')) (first | assumption | exact hrd)
            (first | (go_at_call 26; refine (c_Steps p q _ n' _ HCD.out).mono ?_; rintro e w' ⟨rfl, rfl⟩)))
          go_roundw
          case rel => exact ⟨k + 1, _, n', by go_num, by omega, by omega, HCD.out, HRr.out.drew, GG.out.drew⟩
          case measure => simp [intOf]; omega
        · as_aux_lemma =>
          have hf1 : at_ ≤ 9223372036854775807 := R1.out.2
          have hwl : (wds W at_ old).length ≤ 65536 := by
            have h5 := hiN_le W old
            have h6 := HC.out.len
            rw [wds_len]; omega
          go_wp2_with fail
          refine (c_Words p q W n at_ old _ HC.out).mono ?_
          rintro e wd ⟨v, rfl, hv, f1⟩
          have hsz := f1.size
          have hb1 := f1.cell2 hb1 (fun h => h)
          have hb2 := f1.cell2 hb2 (fun h => h)
          have h1 := HC.out.fr f1 (fun h => h) (fun h => h)
          have h2 := HR.out.fr f1 (fun h => h) (fun h => h)
          have G1 := hGa.step f1 (fun i hi => hi.elim)
          have hwc := hGa.size
          have hlim : p < wc.heap.size ∧ q < wc.heap.size ∧ p' < wc.heap.size ∧ q' < wc.heap.size := ⟨HC.out.str.lt, HC.out.row.lt, HR.out.str.lt, HR.out.row.lt⟩
          have hown : ∃ (a : Option Addr) (cap : Nat), v = .slice a (wds W at_ old).length cap ∧ RdC wd a (wds W at_ old).length (wds W at_ old) ∧ (0 < (wds W at_ old).length → ∃ g cs, a = some ⟨g, 0, none⟩ ∧ wc.heap.size ≤ g ∧ (wds W at_ old).length ≤ cs.length ∧ Blk wd g 2 cs) := by
            obtain ⟨a, cap, hv', hrc, _⟩ := owns_rdC hv
            refine ⟨a, cap, hv', hrc, fun h0 => ?_⟩
            obtain ⟨g, cap', cs, hv'', hg, _, hbk, ht⟩ := owns_blk hv h0
            rw [hv'] at hv''
            cases hv''
            refine ⟨g, cs, rfl, hg, ?_, hbk⟩
            have := congrArg List.length ht
            simp at this
            omega
          obtain ⟨a, cap, rfl, hrc, hbk⟩ := hown
          clear hv
          have HB := Lib.hid hbk
          have HWL := Lib.hid hwl
          clear hbk hwl
          have hw2 := r_Words p' q' W n at_ old wd h2 hf1
          have HW2 := Lib.hid hw2
          clear hw2
          generalize wds W at_ old = D at *
          go_wp2_with fail
          refine HW2.out.mono ?_
          rintro e we ⟨v, rfl, hv, f2⟩
          obtain ⟨a', cap', rfl, hrc', _⟩ := owns_rdC hv
          have h1 := h1.fr f2 (fun h => h) (fun h => h)
          have h2 := h2.fr f2 (fun h => h) (fun h => h)
          have G2 := G1.step f2 (fun i hi => hi.elim)
          have hrc := hrc.fr f2 (fun _ _ _ h => h)
          have hbk : 0 < D.length → ∃ g cs, a = some ⟨g, 0, none⟩ ∧ wc.heap.size ≤ g ∧ D.length ≤ cs.length ∧ Blk we g 2 cs := fun h0 => by
            obtain ⟨g, cs, e1, e2, e3, e4⟩ := HB.out h0
            exact ⟨g, cs, e1, e2, e3, f2.blk e4 (fun h => h)⟩
          have HB := Lib.hid hbk
          clear hbk f1 f2 hv G1 HW2
          have hsm := same_true a a' D.length cap cap' D we hrc hrc' (by have := HWL.out; omega)
          have HSM := Lib.hid hsm
          clear hsm
          go_wp2_with fail
          refine HSM.out.mono ?_
          rintro e wf ⟨rfl, f3⟩
          have h1 := h1.fr f3 (fun h => h) (fun h => h)
          have h2 := h2.fr f3 (fun h => h) (fun h => h)
          have G3 := G2.step f3 (fun i hi => hi.elim)
          have hbk : 0 < D.length → ∃ g cs, a = some ⟨g, 0, none⟩ ∧ wc.heap.size ≤ g ∧ D.length ≤ cs.length ∧ Blk wf g 2 cs := fun h0 => by
            obtain ⟨g, cs, e1, e2, e3, e4⟩ := HB.out h0
            exact ⟨g, cs, e1, e2, e3, f3.blk e4 (fun h => h)⟩
          have hD := HWL.out
          clear f3 G2 HSM HB hrc hrc' HC HR hGa HWL
          generalize D.length = m at *
          have hB3 := hBw
          go_wp2_with fail
          go_loopw [25] (fun i wr => ∃ (j : Nat), i = .int .i64 j ∧ j ≤ m ∧ IsCells wr p q W n ∧ IsRef wr p' q' W n ∧ Fr (two p q p' q') w wr ∧ (0 < m → ∃ g cs, a = some ⟨g, 0, none⟩ ∧ wc.heap.size ≤ g ∧ m ≤ cs.length ∧ Blk wr g 2 cs)) (fun i _ => m - (intOf i).toNat)
          case atStart => exact ⟨0, rfl, by omega, h1, h2, G3, hbk⟩
          case round =>
            obtain ⟨j, rfl, hj, h1, h2, G4, hbk⟩ := hrel
            by_cases hlt : j < m
            · obtain ⟨g, cs, rfl, hg, hcs, hbk⟩ := hbk (by omega)
              have hcell := hbk.cell j
              rw [List.getElem?_eq_getElem (by omega)] at hcell
              have hfz := hbk.frz j
              generalize cs[j] = u at hcell
              obtain ⟨hp1, hq1, hp2, hq2⟩ := hlim
              have h1' : IsCells (Go.World.setCell _ ⟨g, j, none⟩ (.int .i64 99)) p q W n := ⟨h1.ne, h1.str.set_other (a := ⟨g, j, none⟩) (by show p ≠ g; omega) _, h1.row.set_other (a := ⟨g, j, none⟩) (by show q ≠ g; omega) _, h1.len, h1.rng⟩
              have h2' : IsRef (Go.World.setCell _ ⟨g, j, none⟩ (.int .i64 99)) p' q' W n := ⟨h2.ne, h2.str.set_other (a := ⟨g, j, none⟩) (by show p' ≠ g; omega) _, h2.row.set_other (a := ⟨g, j, none⟩) (by show q' ≠ g; omega) _, h2.len⟩
              have G5 := G4.set (a := ⟨g, j, none⟩) (.inr (by show w.heap.size ≤ g; omega)) (.int .i64 99)
              have hbk' := hbk.set j (.int .i64 99)
              have H1 := Lib.hid h1'
              have H2 := Lib.hid h2'
              have HG := Lib.hid G5
              have HBK := Lib.hid hbk'
              clear h1 h2 h1' h2' G4 G5 hbk hbk'
              go_wp2
              go_roundw
              case rel => exact ⟨j + 1, by go_num, by omega, H1.out, H2.out, HG.out, fun _ => ⟨g, _, rfl, hg, by simpa using hcs, HBK.out⟩⟩
              case measure => simp [intOf]; omega
            · have G2 := G4
              clear G4 hbk
              generalize hn' : n = n' at *
              have hcd := h1.drew
              have hrd := h2.str.cell 1
              have HCD := Lib.hid hcd
              have HRr := Lib.hid h2
              have GG := Lib.hid G2
              clear hcd h1 h2 G2
              go_wp2_with (go_region_held3 (fun w' => w'.cell? ⟨p', 1, none⟩ = some (.int .i64 n')) (first | assumption | exact hrd)
                (first | (go_at_call 26; refine (c_Steps p q _ n' _ HCD.out).mono ?_; rintro e w' ⟨rfl, rfl⟩)))
              go_roundw
              case rel => exact ⟨k + 1, _, n', by go_num, by omega, by omega, HCD.out, HRr.out.drew, GG.out.drew⟩
              case measure => simp [intOf]; omega
        · as_aux_lemma =>
          rcases hK with rfl | rfl
          all_goals
            have hcd := HC.out.drew
            have hrd := HR.out.drew
            have Gd := hGa.drew
            have HCd := Lib.hid hcd
            have HRd := Lib.hid hrd
            clear hcd hrd
            go_wp2_with (go_region_held3 (fun w' => w'.cell? ⟨B, 1, none⟩ = some (.int .i64 at_) ∧ w'.cell? ⟨B, 3, none⟩ = some (.int .i64 new))
              (first | assumption | exact ⟨hb1, hb3⟩ | exact ⟨f2.cell2 (f1.cell2 hb1 hBp) hBp', f2.cell2 (f1.cell2 hb3 hBp) hBp'⟩ | exact ⟨f1.cell2 hb1 hBp, f1.cell2 hb3 hBp⟩)
              (first
                | (go_at_call 24; refine (c_Store p q W n at_ new _ HCd.out).mono ?_; rintro e wd ⟨rfl, h1, f1⟩)
                | (go_at_call 25; refine (r_Store p' q' W n at_ new _ (HRd.out.fr f1 hnp hnq)).mono ?_; rintro e we ⟨rfl, h2, f2⟩)))
            have G2 := (Gd.step f1 (fun i hi => .inl (.inl hi))).step f2 (fun i hi => .inl (.inr hi))
            have h1 := h1.fr f2 (hne p (.inl rfl)) (hne q (.inr rfl))
            clear Gd f1 f2 HC HR HCd HRd hb0 hb1 hb2 hb3 hb4
            generalize stp W at_ n = n' at *
            have hcd := h1.drew
            have hrd := h2.str.cell 1
            have HCD := Lib.hid hcd
            have HRr := Lib.hid h2
            have GG := Lib.hid G2
            clear hcd h1 h2 G2
            go_wp2_with (go_region_held3 (fun w' => w'.cell? ⟨p', 1, none⟩ = some (.int .i64 n')) (first | assumption | exact hrd)
              (first | (go_at_call 26; refine (c_Steps p q _ n' _ HCD.out).mono ?_; rintro e w' ⟨rfl, rfl⟩)))
            go_roundw
            case rel => exact ⟨k + 1, _, n', by go_num, by omega, by omega, HCD.out, HRr.out.drew, GG.out.drew⟩
            case measure => simp [intOf]; omega
    · as_aux_lemma =>
      have hw := c_Words p q W n 0 65536 wr.drew hc.drew
      rw [wds_full (by have := hr.len; omega)] at hw
      have hld := hr.str.cell 0
      have hrow := hr.row.drew
      have hle := hr.len
      have HW := Lib.hid hw
      have HRW := Lib.hid hrow
      have hcond : (n1 ≤ k ∧ k ≤ 200) ∨ (k < n1 ∧ k = 200) := by omega
      have Gd := G.drew
      clear hw hrow hc hr hcO hrO
      rcases hcond with ⟨h5, h6⟩ | ⟨h5, rfl⟩
      all_goals
        go_wp2_with (go_region_held3 (fun w' => w'.cell? ⟨p', 0, none⟩ = some (.slice (some ⟨q', 0, none⟩) W.length W.length)) (first | assumption | exact hld | exact f1.cell2 hld (fun h => h) | exact f2.cell2 (f1.cell2 hld (fun h => h)) (fun h => h))
          (first
            | (go_at_call 21; refine HW.out.mono ?_; rintro e wd ⟨v, rfl, hv, f1⟩; obtain ⟨sa, cap, rfl, hra, _⟩ := owns_rdC hv)
            | (go_at_call 22; refine (same_true _ _ _ _ _ W _ hra (row_rdC (f1.blk HRW.out (fun h => h))) (by omega)).mono ?_; rintro e we ⟨rfl, f2⟩)))
        go_ret
        exact ⟨rfl, ((Gd.step f1 (fun i hi => hi.elim)).step f2 (fun i hi => hi.elim)).below (Nat.le_refl _) hge⟩
end Go.Proofs.Ytnknamdhobieiaa
