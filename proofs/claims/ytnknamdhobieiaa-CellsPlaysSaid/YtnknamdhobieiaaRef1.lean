/- The contracts of ballastref01: the same plain functions as those of package cells. -/
import Derived.Test.YtnknamdhobieiaaCells5
namespace Go.Proofs.Ytnknamdhobieiaa
open Go.RowKit Go.HK
set_option maxRecDepth 100000

/-- The reference's memory: W, Steps. -/
structure IsRef (w : World) (p q : Nat) (W : List Int) (n : Int) : Prop where
  ne : p ≠ q
  str : Blk w p 31 [.slice (some ⟨q, 0, none⟩) W.length W.length, .int .i64 n]
  row : Blk w q 2 (W.map (.int .i64))
  len : W.length ≤ 65536

section
variable {w w' : World} {p q : Nat} {W : List Int} {n : Int}
theorem IsRef.alloc (h : IsRef w p q W n) (o : Obj) : IsRef (w.alloc o) p q W n := ⟨h.ne, h.str.alloc o, h.row.alloc o, h.len⟩
theorem IsRef.drew (h : IsRef w p q W n) : IsRef w.drew p q W n := ⟨h.ne, h.str, h.row, h.len⟩
theorem IsRef.fr {S : Nat → Prop} (h : IsRef w p q W n) (k : Fr S w w') (hp : ¬ S p) (hq : ¬ S q) : IsRef w' p q W n :=
  ⟨h.ne, k.blk h.str hp, k.blk h.row hq, h.len⟩
theorem IsRef.tick (h : IsRef w p q W n) (m : Int) : IsRef (w.setCell ⟨p, 1, none⟩ (.int .i64 m)) p q W m :=
  ⟨h.ne, h.str.set 1 _, h.row.set_other (fun e => h.ne e.symm) _, h.len⟩
theorem IsRef.put (h : IsRef w p q W n) (i : Nat) (v : Int) : IsRef (w.setCell ⟨q, i, none⟩ (.int .i64 v)) p q (W.set i v) n :=
  ⟨h.ne, by have := h.str.set_other (a := ⟨q, i, none⟩) h.ne (.int .i64 v); simpa using this, by have := h.row.set i (.int .i64 v); simpa [List.map_set] using this, by simpa using h.len⟩
theorem IsRef.cell (h : IsRef w p q W n) {at_ : Int} (h0 : 0 ≤ at_) (h1 : at_ < W.length) : w.cell? ⟨q, at_.toNat, none⟩ = some (.int .i64 (W.getD at_.toNat 0)) := by
  have : at_.toNat < W.length := by omega
  rw [h.row.cell]; simp [this]
end

theorem r_there_in (p q : Nat) (W : List Int) (n at_ : Int) (w : World) (h : IsRef w p q W n) (hin : inR W at_) :
    Calls Try.prog 29 #[.pointer (some ⟨p, 0, none⟩), .int .i64 at_] w fun e w' => e = .returned (.bool true) ∧ w' = w.setCell ⟨p, 1, none⟩ (.int .i64 (wrap64 (n + 1))) := by
  have hc0 := h.str.cell 0
  have hc1 := h.str.cell 1
  have hf := h.str.frz 1
  have hl : (W.length : Int) ≤ 65536 := by have := h.len; omega
  obtain ⟨h0, h1⟩ := hin
  clear h
  generalize W.length = m at *
  go_enter Try.func29, Try.ntmps29
  go_wp2
  go_ret
  exact ⟨rfl, rfl⟩

theorem r_there_out (p q : Nat) (W : List Int) (n at_ : Int) (w : World) (h : IsRef w p q W n) (hin : ¬ inR W at_) :
    Calls Try.prog 29 #[.pointer (some ⟨p, 0, none⟩), .int .i64 at_] w fun e w' => e = .returned (.bool false) ∧ w = w' := by
  have hc0 := h.str.cell 0
  have hl : (W.length : Int) ≤ 65536 := by have := h.len; omega
  have ho := not_inR hin
  clear h hin
  generalize W.length = m at *
  rcases ho with ho | ⟨ho, ho'⟩
  all_goals
    go_enter Try.func29, Try.ntmps29
    go_wp2
    go_ret
    exact ⟨rfl, rfl⟩

theorem r_Load (p q : Nat) (W : List Int) (n at_ : Int) (w : World) (h : IsRef w p q W n) :
    Calls Try.prog 14 #[.pointer (some ⟨p, 0, none⟩), .int .i64 at_] w fun e w' => e = .returned (.tuple #[.int .i64 (ldV W at_), .int .i64 (okE W at_)]) ∧
      IsRef w' p q W (stp W at_ n) ∧ Fr (foot p q) w w' := by
  have H := Lib.hid h
  by_cases hin : inR W at_
  · have ht := r_there_in p q W n at_ w h hin
    have hc := (h.tick (wrap64 (n + 1))).cell hin.1 hin.2
    have hc0 := (h.tick (wrap64 (n + 1))).str.cell 0
    have e1 : ldV W at_ = W.getD at_.toNat 0 := by rw [ldV, if_pos hin]
    have e2 : okE W at_ = 0 := by rw [okE, if_pos hin]
    have e3 : stp W at_ n = wrap64 (n + 1) := by rw [stp, if_pos hin]
    rw [e1, e2, e3]
    have h0 := hin.1
    have h1 := hin.2
    have HT := Lib.hid ht
    clear ht e1 e2 e3 hin h
    generalize W.getD at_.toNat 0 = u at *
    generalize W.length = m at *
    go_enter Try.func14, Try.ntmps14
    go_wp2_with fail
    refine HT.out.mono ?_
    rintro e w' ⟨rfl, rfl⟩
    go_wp2
    go_ret2
    exact ⟨rfl, H.out.tick _, foot_p⟩
  · have ht := r_there_out p q W n at_ w h hin
    have e1 : ldV W at_ = 0 := by rw [ldV, if_neg hin]
    have e2 : okE W at_ = 10 := by rw [okE, if_neg hin]
    have e3 : stp W at_ n = n := by rw [stp, if_neg hin]
    rw [e1, e2, e3]
    have HT := Lib.hid ht
    clear ht e1 e2 e3 hin h
    go_enter Try.func14, Try.ntmps14
    go_wp2_with fail
    refine HT.out.mono ?_
    rintro e w' ⟨rfl, rfl⟩
    go_wp2
    go_ret2
    exact ⟨rfl, H.out, Fr.refl _ _⟩

theorem r_Store (p q : Nat) (W : List Int) (n at_ v : Int) (w : World) (h : IsRef w p q W n) :
    Calls Try.prog 25 #[.pointer (some ⟨p, 0, none⟩), .int .i64 at_, .int .i64 v] w fun e w' => e = .returned (.int .i64 (okE W at_)) ∧
      IsRef w' p q (stW W at_ v) (stp W at_ n) ∧ Fr (foot p q) w w' := by
  have H := Lib.hid h
  by_cases hin : inR W at_
  · have ht := r_there_in p q W n at_ w h hin
    have hc := (h.tick (wrap64 (n + 1))).cell hin.1 hin.2
    have hz := (h.tick (wrap64 (n + 1))).row.frz at_.toNat
    have hc0 := (h.tick (wrap64 (n + 1))).str.cell 0
    have e1 : stW W at_ v = W.set at_.toNat v := by rw [stW, if_pos hin]
    have e2 : okE W at_ = 0 := by rw [okE, if_pos hin]
    have e3 : stp W at_ n = wrap64 (n + 1) := by rw [stp, if_pos hin]
    rw [e1, e2, e3]
    have h0 := hin.1
    have h1 := hin.2
    have HT := Lib.hid ht
    clear ht e1 e2 e3 hin h
    generalize W.getD at_.toNat 0 = u at *
    generalize W.length = m at *
    go_enter Try.func25, Try.ntmps25
    go_wp2_with fail
    refine HT.out.mono ?_
    rintro e w' ⟨rfl, rfl⟩
    go_wp2
    go_ret
    exact ⟨rfl, (H.out.tick _).put _ _, foot_q foot_p⟩
  · have ht := r_there_out p q W n at_ w h hin
    have e1 : stW W at_ v = W := by rw [stW, if_neg hin]
    have e2 : okE W at_ = 10 := by rw [okE, if_neg hin]
    have e3 : stp W at_ n = n := by rw [stp, if_neg hin]
    rw [e1, e2, e3]
    have HT := Lib.hid ht
    clear ht e1 e2 e3 hin h
    go_enter Try.func25, Try.ntmps25
    go_wp2_with fail
    refine HT.out.mono ?_
    rintro e w' ⟨rfl, rfl⟩
    go_wp2
    go_ret
    exact ⟨rfl, H.out, Fr.refl _ _⟩

theorem r_Add (p q : Nat) (W : List Int) (n at_ d : Int) (w : World) (h : IsRef w p q W n) :
    Calls Try.prog 18 #[.pointer (some ⟨p, 0, none⟩), .int .i64 at_, .int .i64 d] w fun e w' => e = .returned (.tuple #[.int .i64 (ldV W at_), .int .i64 (okE W at_)]) ∧
      IsRef w' p q (adW W at_ d) (stp W at_ n) ∧ Fr (foot p q) w w' := by
  have H := Lib.hid h
  by_cases hin : inR W at_
  · have ht := r_there_in p q W n at_ w h hin
    have hc := (h.tick (wrap64 (n + 1))).cell hin.1 hin.2
    have hz := (h.tick (wrap64 (n + 1))).row.frz at_.toNat
    have hc0 := (h.tick (wrap64 (n + 1))).str.cell 0
    have e0 : adW W at_ d = W.set at_.toNat (wrap64 (W.getD at_.toNat 0 + d)) := by rw [adW, if_pos hin]
    have e1 : ldV W at_ = W.getD at_.toNat 0 := by rw [ldV, if_pos hin]
    have e2 : okE W at_ = 0 := by rw [okE, if_pos hin]
    have e3 : stp W at_ n = wrap64 (n + 1) := by rw [stp, if_pos hin]
    rw [e0, e1, e2, e3]
    have h0 := hin.1
    have h1 := hin.2
    have HT := Lib.hid ht
    clear ht e0 e1 e2 e3 hin h
    generalize W.getD at_.toNat 0 = u at *
    generalize W.length = m at *
    go_enter Try.func18, Try.ntmps18
    go_wp2_with fail
    refine HT.out.mono ?_
    rintro e w' ⟨rfl, rfl⟩
    go_wp2
    go_ret2
    exact ⟨rfl, (H.out.tick _).put _ _, foot_q foot_p⟩
  · have ht := r_there_out p q W n at_ w h hin
    have e0 : adW W at_ d = W := by rw [adW, if_neg hin]
    have e1 : ldV W at_ = 0 := by rw [ldV, if_neg hin]
    have e2 : okE W at_ = 10 := by rw [okE, if_neg hin]
    have e3 : stp W at_ n = n := by rw [stp, if_neg hin]
    rw [e0, e1, e2, e3]
    have HT := Lib.hid ht
    clear ht e0 e1 e2 e3 hin h
    go_enter Try.func18, Try.ntmps18
    go_wp2_with fail
    refine HT.out.mono ?_
    rintro e w' ⟨rfl, rfl⟩
    go_wp2
    go_ret2
    exact ⟨rfl, H.out, Fr.refl _ _⟩

theorem r_Swap (p q : Nat) (W : List Int) (n at_ old new : Int) (w : World) (h : IsRef w p q W n) :
    Calls Try.prog 16 #[.pointer (some ⟨p, 0, none⟩), .int .i64 at_, .int .i64 old, .int .i64 new] w fun e w' => e = .returned (.tuple #[.bool (swB W at_ old), .int .i64 (okE W at_)]) ∧
      IsRef w' p q (swW W at_ old new) (stp W at_ n) ∧ Fr (foot p q) w w' := by
  have H := Lib.hid h
  by_cases hin : inR W at_
  · have ht := r_there_in p q W n at_ w h hin
    have hc := (h.tick (wrap64 (n + 1))).cell hin.1 hin.2
    have hz := (h.tick (wrap64 (n + 1))).row.frz at_.toNat
    have hc0 := (h.tick (wrap64 (n + 1))).str.cell 0
    have e1 : swW W at_ old new = if W.getD at_.toNat 0 = old then W.set at_.toNat new else W := by simp [swW, swB, hin]
    have e2 : okE W at_ = 0 := by rw [okE, if_pos hin]
    have e3 : stp W at_ n = wrap64 (n + 1) := by rw [stp, if_pos hin]
    have e4 : swB W at_ old = decide (W.getD at_.toNat 0 = old) := by simp [swB, hin]
    rw [e1, e2, e3, e4]
    have h0 := hin.1
    have h1 := hin.2
    have HT := Lib.hid ht
    clear ht e1 e2 e3 e4 hin h
    generalize W.getD at_.toNat 0 = u at *
    generalize W.length = m at *
    by_cases hv : u = old
    · rw [if_pos hv]
      subst hv
      have hb : (u != u) = false := by simp
      go_enter Try.func16, Try.ntmps16
      go_wp2_with fail
      refine HT.out.mono ?_
      rintro e w' ⟨rfl, rfl⟩
      go_wp2
      go_ret2
      exact ⟨by simp, (H.out.tick _).put _ _, foot_q foot_p⟩
    · rw [if_neg hv]
      have hb : (u != old) = true := by simpa using hv
      have HV := Lib.hid hv
      clear hv
      go_enter Try.func16, Try.ntmps16
      go_wp2_with fail
      refine HT.out.mono ?_
      rintro e w' ⟨rfl, rfl⟩
      go_wp2
      go_ret2
      exact ⟨by simp [HV.out], H.out.tick _, foot_p⟩
  · have ht := r_there_out p q W n at_ w h hin
    have e1 : swW W at_ old new = W := by simp [swW, swB, hin]
    have e2 : okE W at_ = 10 := by rw [okE, if_neg hin]
    have e3 : stp W at_ n = n := by rw [stp, if_neg hin]
    have e4 : swB W at_ old = false := by simp [swB, hin]
    rw [e1, e2, e3, e4]
    have HT := Lib.hid ht
    clear ht e1 e2 e3 e4 hin h
    go_enter Try.func16, Try.ntmps16
    go_wp2_with fail
    refine HT.out.mono ?_
    rintro e w' ⟨rfl, rfl⟩
    go_wp2
    go_ret2
    exact ⟨rfl, H.out, Fr.refl _ _⟩
end Go.Proofs.Ytnknamdhobieiaa
