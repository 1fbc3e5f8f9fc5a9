/- The contracts of package cells, the accesses: Load, Store, Add, Swap, Len, Steps. -/
import Derived.Test.YtnknamdhobieiaaCells
namespace Go.Proofs.Ytnknamdhobieiaa
open Go.RowKit Go.HK
set_option maxRecDepth 100000

theorem not_inR {W : List Int} {at_ : Int} (h : ¬ inR W at_) : at_ < 0 ∨ ((W.length : Int) ≤ at_ ∧ 0 ≤ at_) := by unfold inR at h; omega

theorem foot_p {p q : Nat} {w : World} {n : Int} : Fr (foot p q) w (w.setCell ⟨p, 1, none⟩ (.int .i64 n)) := (Fr.refl _ w).set (.inl (.inl rfl)) _
theorem foot_q {p q : Nat} {w w' : World} {i : Nat} {n : Int} (h : Fr (foot p q) w w') : Fr (foot p q) w (w'.setCell ⟨q, i, none⟩ (.int .i64 n)) := h.set (.inl (.inr rfl)) _

theorem c_Load (p q : Nat) (W : List Int) (n at_ : Int) (w : World) (h : IsCells w p q W n) :
    Calls Try.prog 13 #[.pointer (some ⟨p, 0, none⟩), .int .i64 at_] w fun e w' => e = .returned (.tuple #[.int .i64 (ldV W at_), .int .i64 (okE W at_)]) ∧
      IsCells w' p q W (stp W at_ n) ∧ Fr (foot p q) w w' := by
  have hc0 := h.str.cell 0
  have hc1 := h.str.cell 1
  have hf := h.str.frz 1
  have hlt := h.str.lt
  have hlt2 := h.row.lt
  have hl : (W.length : Int) ≤ 65536 := by have := h.len; omega
  have H := Lib.hid h
  by_cases hin : inR W at_
  · have hcx := h.cell hin.1 hin.2
    have h0 := hin.1
    have h1 := hin.2
    have hne := h.ne
    obtain ⟨v, hv⟩ : ∃ v, v = W.getD at_.toNat 0 := ⟨_, rfl⟩
    rw [← hv] at hcx
    have e1 : ldV W at_ = v := by rw [ldV, if_pos hin, hv]
    have e2 : okE W at_ = 0 := by rw [okE, if_pos hin]
    have e3 : stp W at_ n = wrap64 (n + 1) := by rw [stp, if_pos hin]
    rw [e1, e2, e3]
    clear hv e1 e2 e3 h hin
    have hadd := atomic_add ⟨p, 1, none⟩ n 1
    have hmf := mkFunc
    go_enter Try.func13, Try.ntmps13
    go_wp2_with (first | (go_at_call 27; go_in) | (go_at_call 35; go_in))
    refine (change_load w.heap.size q at_.toNat 0 0 v _ ?_ ?_).mono ?_
    rotate_right
    · rintro e w' ⟨rfl, rfl⟩
      go_wp2
      go_ret2
      exact ⟨rfl, (H.out.tick.alloc _), (foot_p.alloc _)⟩
    · exact Blk.new_at _ _ [.int .i64 0, .int .i64 0] (by simp)
    · go_simp
  · have e1 : ldV W at_ = 0 := by rw [ldV, if_neg hin]
    have e2 : okE W at_ = 10 := by rw [okE, if_neg hin]
    have e3 : stp W at_ n = n := by rw [stp, if_neg hin]
    rw [e1, e2, e3]
    have hmf := mkFunc
    have ho := not_inR hin
    clear e1 e2 e3 h hin
    rcases ho with ho | ⟨ho, ho'⟩
    all_goals
      go_enter Try.func13, Try.ntmps13
      go_wp2
      go_ret2
      exact ⟨rfl, (H.out.alloc _), ((Fr.refl _ w).alloc _)⟩

theorem c_Store (p q : Nat) (W : List Int) (n at_ v : Int) (w : World) (h : IsCells w p q W n) :
    Calls Try.prog 24 #[.pointer (some ⟨p, 0, none⟩), .int .i64 at_, .int .i64 v] w fun e w' => e = .returned (.int .i64 (okE W at_)) ∧
      IsCells w' p q (stW W at_ v) (stp W at_ n) ∧ Fr (foot p q) w w' := by
  have hc0 := h.str.cell 0
  have hc1 := h.str.cell 1
  have hf := h.str.frz 1
  have hlt := h.str.lt
  have hlt2 := h.row.lt
  have hl : (W.length : Int) ≤ 65536 := by have := h.len; omega
  have H := Lib.hid h
  by_cases hin : inR W at_
  · have hcx := h.cell hin.1 hin.2
    have hfx := h.row.frz at_.toNat
    have h0 := hin.1
    have h1 := hin.2
    have hne := h.ne
    obtain ⟨u, hu⟩ : ∃ v, v = W.getD at_.toNat 0 := ⟨_, rfl⟩
    rw [← hu] at hcx
    have e1 : stW W at_ v = W.set at_.toNat v := by rw [stW, if_pos hin]
    have e2 : okE W at_ = 0 := by rw [okE, if_pos hin]
    have e3 : stp W at_ n = wrap64 (n + 1) := by rw [stp, if_pos hin]
    rw [e1, e2, e3]
    clear hu e1 e2 e3 h hin
    have hadd := atomic_add ⟨p, 1, none⟩ n 1
    have hmf := mkFunc
    go_enter Try.func24, Try.ntmps24
    go_wp2_with (first | (go_at_call 27; go_in) | (go_at_call 35; go_in))
    refine (change_store w.heap.size q at_.toNat 0 v u _ ?_ ?_ ?_).mono ?_
    rotate_right
    · rintro e w' ⟨rfl, rfl⟩
      go_wp2
      go_ret
      exact ⟨rfl, ((H.out.tick.put _ _).alloc _), ((foot_q foot_p).alloc _)⟩
    · exact Blk.new_at _ _ [.int .i64 0, .int .i64 v] (by simp)
    · go_simp
    · go_simp
  · have e1 : stW W at_ v = W := by rw [stW, if_neg hin]
    have e2 : okE W at_ = 10 := by rw [okE, if_neg hin]
    have e3 : stp W at_ n = n := by rw [stp, if_neg hin]
    rw [e1, e2, e3]
    have hmf := mkFunc
    have ho := not_inR hin
    clear e1 e2 e3 h hin
    rcases ho with ho | ⟨ho, ho'⟩
    all_goals
      go_enter Try.func24, Try.ntmps24
      go_wp2
      go_ret
      exact ⟨rfl, (H.out.alloc _), ((Fr.refl _ w).alloc _)⟩

theorem c_Add (p q : Nat) (W : List Int) (n at_ d : Int) (w : World) (h : IsCells w p q W n) :
    Calls Try.prog 17 #[.pointer (some ⟨p, 0, none⟩), .int .i64 at_, .int .i64 d] w fun e w' => e = .returned (.tuple #[.int .i64 (ldV W at_), .int .i64 (okE W at_)]) ∧
      IsCells w' p q (adW W at_ d) (stp W at_ n) ∧ Fr (foot p q) w w' := by
  have hc0 := h.str.cell 0
  have hc1 := h.str.cell 1
  have hf := h.str.frz 1
  have hlt := h.str.lt
  have hlt2 := h.row.lt
  have hl : (W.length : Int) ≤ 65536 := by have := h.len; omega
  have H := Lib.hid h
  by_cases hin : inR W at_
  · have hcx := h.cell hin.1 hin.2
    have hfx := h.row.frz at_.toNat
    have h0 := hin.1
    have h1 := hin.2
    have hne := h.ne
    have e0 : adW W at_ d = W.set at_.toNat (wrap64 (W.getD at_.toNat 0 + d)) := by rw [adW, if_pos hin]
    have e1 : ldV W at_ = W.getD at_.toNat 0 := by rw [ldV, if_pos hin]
    have e2 : okE W at_ = 0 := by rw [okE, if_pos hin]
    have e3 : stp W at_ n = wrap64 (n + 1) := by rw [stp, if_pos hin]
    rw [e0, e1, e2, e3]
    generalize W.getD at_.toNat 0 = u at *
    clear e0 e1 e2 e3 h hin
    have hadd := atomic_add ⟨p, 1, none⟩ n 1
    have hmf := mkFunc
    go_enter Try.func17, Try.ntmps17
    go_wp2_with (first | (go_at_call 27; go_in) | (go_at_call 35; go_in))
    refine (change_add w.heap.size q at_.toNat 0 d u _ ?_ ?_ ?_ ?_).mono ?_
    rotate_right
    · rintro e w' ⟨rfl, rfl⟩
      go_wp2
      go_ret2
      exact ⟨rfl, (((H.out.tick.put _ _).alloc _)).drew, (((foot_q foot_p).alloc _)).drew⟩
    · omega
    · exact Blk.new_at _ _ [.int .i64 0, .int .i64 d] (by simp)
    · go_simp
    · go_simp
  · have e0 : adW W at_ d = W := by rw [adW, if_neg hin]
    have e1 : ldV W at_ = 0 := by rw [ldV, if_neg hin]
    have e2 : okE W at_ = 10 := by rw [okE, if_neg hin]
    have e3 : stp W at_ n = n := by rw [stp, if_neg hin]
    rw [e0, e1, e2, e3]
    have hmf := mkFunc
    have ho := not_inR hin
    clear e0 e1 e2 e3 h hin
    rcases ho with ho | ⟨ho, ho'⟩
    all_goals
      go_enter Try.func17, Try.ntmps17
      go_wp2
      go_ret2
      exact ⟨rfl, (H.out.alloc _), ((Fr.refl _ w).alloc _)⟩

theorem c_Len (p q : Nat) (W : List Int) (n : Int) (w : World) (h : IsCells w p q W n) :
    Calls Try.prog 12 #[.pointer (some ⟨p, 0, none⟩)] w fun e w' => e = .returned (.int .i64 W.length) ∧ w = w' := by
  have hc0 := h.str.cell 0
  go_enter Try.func12, Try.ntmps12
  go_wp2
  go_ret
  exact ⟨rfl, rfl⟩

theorem c_Steps (p q : Nat) (W : List Int) (n : Int) (w : World) (h : IsCells w p q W n) :
    Calls Try.prog 26 #[.pointer (some ⟨p, 0, none⟩)] w fun e w' => e = .returned (.int .i64 n) ∧ w = w' := by
  have hc0 := h.str.cell 1
  have hr : IntKind.i64.wrap n = n := (IntWalk.i64_left n).trans h.rng
  have hld := atomic_load ⟨p, 1, none⟩ n w hc0
  go_enter Try.func26, Try.ntmps26
  go_wp2
  go_ret
  exact ⟨rfl, rfl⟩
end Go.Proofs.Ytnknamdhobieiaa
