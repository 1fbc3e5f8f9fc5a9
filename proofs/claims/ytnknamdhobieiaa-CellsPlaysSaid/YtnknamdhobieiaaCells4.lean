/- The contracts of package cells: Swap, Words, Put. -/
import Derived.Test.YtnknamdhobieiaaCells3
namespace Go.Proofs.Ytnknamdhobieiaa
open Go.RowKit Go.HK
set_option maxRecDepth 100000

theorem c_Swap (p q : Nat) (W : List Int) (n at_ old new : Int) (w : World) (h : IsCells w p q W n) :
    Calls Try.prog 15 #[.pointer (some ⟨p, 0, none⟩), .int .i64 at_, .int .i64 old, .int .i64 new] w fun e w' => e = .returned (.tuple #[.bool (swB W at_ old), .int .i64 (okE W at_)]) ∧
      IsCells w' p q (swW W at_ old new) (stp W at_ n) ∧ Fr (foot p q) w w' := by
  have hc0 := h.str.cell 0
  have hc1 := h.str.cell 1
  have hf := h.str.frz 1
  have hlt := h.str.lt
  have hlt2 := h.row.lt
  have hlt' : p < w.heap.size + 1 := by omega
  have hlt'' : p < w.heap.size + 1 + 1 := by omega
  have hlu' : q < w.heap.size + 1 := by omega
  have hlu'' : q < w.heap.size + 1 + 1 := by omega
  have hl : (W.length : Int) ≤ 65536 := by have := h.len; omega
  have H := Lib.hid h
  by_cases hin : inR W at_
  · have hcx := h.cell hin.1 hin.2
    have hfx := h.row.frz at_.toNat
    have h0 := hin.1
    have h1 := hin.2
    have hne := h.ne
    have e1 : swW W at_ old new = if W.getD at_.toNat 0 = old then W.set at_.toNat new else W := by simp [swW, swB, hin]
    have e2 : okE W at_ = 0 := by rw [okE, if_pos hin]
    have e3 : stp W at_ n = wrap64 (n + 1) := by rw [stp, if_pos hin]
    have e4 : swB W at_ old = decide (W.getD at_.toNat 0 = old) := by simp [swB, hin]
    rw [e1, e2, e3, e4]
    generalize W.getD at_.toNat 0 = u at *
    clear e1 e2 e3 e4 h hin
    have hadd := atomic_add ⟨p, 1, none⟩ n 1
    have hmf := mkFunc
    go_enter Try.func15, Try.ntmps15
    go_wp2_with (first | (go_at_call 27; go_in) | (go_at_call 35; go_in))
    refine (swap_clo w.heap.size (w.heap.size + 1 + 1) (w.heap.size + 1) q at_.toNat old new u false _ ?_ ?_ ?_ ?_ ?_ ?_ ?_ ?_ ?_).mono ?_
    rotate_right
    · rintro e w' ⟨rfl, rfl⟩
      by_cases hv : u = old
      · rw [if_pos hv]
        subst hv
        go_wp2
        go_ret2
        refine ⟨by simp, ?_, ?_⟩
        · exact ((((H.out.tick.put _ _).alloc _).alloc _).alloc _).drew
        · exact ((((foot_q foot_p).alloc _).alloc _).alloc _).drew
      · rw [if_neg hv]
        have hb : (u == old) = false := by simpa using hv
        go_wp2
        go_ret2
        refine ⟨by simp [hv], ?_, ?_⟩
        · exact (((H.out.tick.alloc _).alloc _).alloc _).drew
        · exact (((foot_p.alloc _).alloc _).alloc _).drew
    · omega
    · omega
    · omega
    · omega
    · exact ((Blk.new_at _ _ [.int .i64 old] (by simp)).alloc _).alloc _
    · exact Blk.new_at _ _ [.bool false] (by simp)
    · exact (Blk.new_at _ _ [.int .i64 new] (by simp)).alloc _
    · go_simp
    · go_simp
  · have e1 : swW W at_ old new = W := by simp [swW, swB, hin]
    have e2 : okE W at_ = 10 := by rw [okE, if_neg hin]
    have e3 : stp W at_ n = n := by rw [stp, if_neg hin]
    have e4 : swB W at_ old = false := by simp [swB, hin]
    rw [e1, e2, e3, e4]
    have hmf := mkFunc
    have ho := not_inR hin
    clear e1 e2 e3 e4 h hin
    rcases ho with ho | ⟨ho, ho'⟩
    all_goals
      go_enter Try.func15, Try.ntmps15
      go_wp2
      go_ret2
      exact ⟨rfl, (((H.out.alloc _).alloc _).alloc _), ((((Fr.refl _ w).alloc _).alloc _).alloc _)⟩

/-! ### Words -/
/-- a slice that can be read: its elements are L -/
def Reads (w : World) (a : Option Addr) (n : Nat) (L : List Int) : Prop :=
  n = L.length ∧ (0 < L.length → ∃ ad : Addr, a = some ad ∧ ∀ j u, (L.map (Value.int .i64))[j]? = some u → w.cell? (ad.add j) = some u)

theorem ints_one (L : List Int) : ∀ u ∈ L.map (Value.int .i64), u.oneCell' = true := ints_oneCell _ _

theorem c_Clone (m c : Nat) (L : List Int) (w : World) (ad : Addr) (hm : m = L.length) (hr : ∀ j u, (L.map (Value.int .i64))[j]? = some u → w.cell? (ad.add j) = some u) (hl : L.length ≤ 1000000) :
    Calls Try.prog 32 #[.slice (some ad) m c] w fun e w' => ∃ v, e = .returned v ∧ w'.ownsRow w.heap.size 2 1 v L.length (L.map (.int .i64)) ∧ Fr (fun _ => False) w w' := by
  subst hm
  have hq := Lib.run_eql_slice_nil (P := Try.prog) w 29 2 (some ad) L.length c 0 0 Try.underlying29
  obtain ⟨i0, hi, hz0, hz1, hz2⟩ := info_parts info_i64
  go_enter Try.func32, Try.ntmps32
  have hemp := World.ownsRow_lit (e := 2) (size := 1) (base := w.heap.size) w #[] 0 (Nat.le_refl _) (by unfold maxLen; omega) rfl
  go_wp2_with (at_builtin; refine wpList_append_own _ rfl _ _ 29 rfl w.heap.size 2 i0 (.int .i64 0) 1 8 Try.underlying29 hi hz0 hz1 hz2 rfl (by decide) _ _ _ rfl hemp ad L.length c (L.map (.int .i64)) rfl (by simp) ?c1 (ints_one L) ?c2 ?c3 ?c4 ?_)
  case c1 => intro j u hu; have := hr j (.int .i64 u) (by simpa using hu); rw [World.cell?_alloc_lt]; exact this; exact World.block_lt_of_cell? w _ this
  case c2 => unfold maxLen; omega
  case c3 => omega
  intro v' w1 hown hgrow _
  go_wp2
  go_ret
  exact ⟨_, rfl, by simpa using hown, ((Fr.refl _ w).alloc _).grown hgrow (fun k hk => .inr (by simp [Value.ownBlock] at hk; omega))⟩

/-! ### Words, Put: plain words -/
def loN (f : Int) : Nat := f.toNat
def hiN (W : List Int) (t : Int) : Nat := (if (W.length : Int) < t then (W.length : Int) else t).toNat
/-- the words from f up to t, as many as there are -/
def wds (W : List Int) (f t : Int) : List Int := (W.take (hiN W t)).drop (loN f)
theorem hiN_le (W : List Int) (t : Int) : hiN W t ≤ W.length := by unfold hiN; split <;> omega
theorem wds_len (W : List Int) (f t : Int) : (wds W f t).length = hiN W t - loN f := by
  have := hiN_le W t
  simp [wds]; omega
theorem wds_nil {W : List Int} {f t : Int} (h : hiN W t ≤ loN f) : wds W f t = [] := by
  apply List.eq_nil_of_length_eq_zero; rw [wds_len]; omega

theorem c_Words (p q : Nat) (W : List Int) (n f t : Int) (w : World) (h : IsCells w p q W n) :
    Calls Try.prog 21 #[.pointer (some ⟨p, 0, none⟩), .int .i64 f, .int .i64 t] w fun e w' => ∃ v, e = .returned v ∧
      w'.ownsRow w.heap.size 2 1 v (wds W f t).length ((wds W f t).map (.int .i64)) ∧ Fr (fun _ => False) w w' := by
  have hmax := max_ints
  have hmin := min_ints
  have hc0 := h.str.cell 0
  have hl : (W.length : Int) ≤ 65536 := by have := h.len; omega
  have hL := wds_len W f t
  have hh := hiN_le W t
  have hlo : loN f = f.toNat := rfl
  have hhi : hiN W t = (if (W.length : Int) < t then (W.length : Int) else t).toNat := rfl
  by_cases hlt : loN f < hiN W t
  · have hcells : ∀ (lo : Nat), lo = loN f → ∀ j u, ((wds W f t).map (Value.int .i64))[j]? = some u → w.cell? ((⟨q, lo, none⟩ : Addr).add j) = some u := by
      rintro lo rfl j u hu
      have hj : j < (wds W f t).length := by
        rcases Nat.lt_or_ge j (wds W f t).length with hj | hj
        · exact hj
        · simp [hj] at hu
      rw [Addr.add_lit, h.row.cell]
      rw [← hu]
      simp only [wds, List.getElem?_map, List.getElem?_drop, List.getElem?_take]
      rw [if_pos (by omega)]
    have hone := fun m c ad hm hr hl => c_Clone m c (wds W f t) w ad hm hr hl
    have HC := Lib.hid hcells
    have HO := Lib.hid hone
    clear hone hcells
    have hf0 : f < 0 ∨ 0 ≤ f := by omega
    have ht0 : (W.length : Int) < t ∨ t ≤ (W.length : Int) := by omega
    have hmm : 1 ≤ W.length := by omega
    clear h
    generalize wds W f t = L at *
    generalize W.length = m at *
    rcases hf0 with hf0 | hf0 <;> rcases ht0 with ht0 | ht0
    · have HL := Lib.hid (show m - 0 = L.length by rw [if_pos ht0] at hhi; omega)
      have H0 := Lib.hid (show 0 = loN f by omega)
      clear hlt hhi hlo hh hL
      go_enter Try.func21, Try.ntmps21
      go_wp2_with (go_at_call 12; go_in)
      refine (HO.out _ _ _ HL.out (HC.out _ H0.out) (by have := HL.out; omega)).mono ?_
      rintro e w' ⟨v, rfl, hw, hf⟩
      go_wp2
      go_ret
      exact ⟨_, rfl, hw, hf⟩
    · have hlt2 : 0 < t := by rw [if_neg (by omega)] at hhi; omega
      have HL := Lib.hid (show t.toNat = L.length by rw [if_neg (by omega)] at hhi; omega)
      have H0 := Lib.hid (show 0 = loN f by omega)
      clear hlt hhi hlo hh hL
      go_enter Try.func21, Try.ntmps21
      go_wp2_with (go_at_call 12; go_in)
      refine (HO.out _ _ _ HL.out (HC.out _ H0.out) (by have := HL.out; omega)).mono ?_
      rintro e w' ⟨v, rfl, hw, hf⟩
      go_wp2
      go_ret
      exact ⟨_, rfl, hw, hf⟩
    · have hlt2 : f < (m : Int) := by rw [if_pos ht0] at hhi; omega
      have HL := Lib.hid (show m - f.toNat = L.length by rw [if_pos ht0] at hhi; omega)
      have H0 := Lib.hid (show f.toNat = loN f by omega)
      clear hlt hhi hlo hh hL
      go_enter Try.func21, Try.ntmps21
      go_wp2_with (go_at_call 12; go_in)
      refine (HO.out _ _ _ HL.out (HC.out _ H0.out) (by have := HL.out; omega)).mono ?_
      rintro e w' ⟨v, rfl, hw, hf⟩
      go_wp2
      go_ret
      exact ⟨_, rfl, hw, hf⟩
    · have hlt2 : f < t := by rw [if_neg (by omega)] at hhi; omega
      have HL := Lib.hid (show t.toNat - f.toNat = L.length by rw [if_neg (by omega)] at hhi; omega)
      have H0 := Lib.hid (show f.toNat = loN f by omega)
      clear hlt hhi hlo hh hL
      go_enter Try.func21, Try.ntmps21
      go_wp2_with (go_at_call 12; go_in)
      refine (HO.out _ _ _ HL.out (HC.out _ H0.out) (by have := HL.out; omega)).mono ?_
      rintro e w' ⟨v, rfl, hw, hf⟩
      go_wp2
      go_ret
      exact ⟨_, rfl, hw, hf⟩
  · have hn := wds_nil (W := W) (f := f) (t := t) (by omega)
    rw [hn]
    have hw := World.ownsRow_nil w w.heap.size 2 1
    have Hw := Lib.hid hw
    clear hw hn hL
    have hf0 : f < 0 ∨ 0 ≤ f := by omega
    have ht0 : (W.length : Int) < t ∨ t ≤ (W.length : Int) := by omega
    clear h
    generalize W.length = m at *
    rcases hf0 with hf0 | hf0 <;> rcases ht0 with ht0 | ht0
    · have : (m : Int) ≤ 0 := by rw [if_pos ht0] at hhi; omega
      clear hlt hhi hlo hh
      go_enter Try.func21, Try.ntmps21
      go_wp2
      go_ret
      exact ⟨_, rfl, Hw.out, Fr.refl _ _⟩
    · have : t ≤ 0 := by rw [if_neg (by omega)] at hhi; omega
      clear hlt hhi hlo hh
      go_enter Try.func21, Try.ntmps21
      go_wp2
      go_ret
      exact ⟨_, rfl, Hw.out, Fr.refl _ _⟩
    · have : (m : Int) ≤ f := by rw [if_pos ht0] at hhi; omega
      clear hlt hhi hlo hh
      go_enter Try.func21, Try.ntmps21
      go_wp2
      go_ret
      exact ⟨_, rfl, Hw.out, Fr.refl _ _⟩
    · have : t ≤ f := by rw [if_neg (by omega)] at hhi; omega
      clear hlt hhi hlo hh
      go_enter Try.func21, Try.ntmps21
      go_wp2
      go_ret
      exact ⟨_, rfl, Hw.out, Fr.refl _ _⟩
end Go.Proofs.Ytnknamdhobieiaa
