/- The contracts of ballastref01: Put, Words. -/
import Derived.Test.YtnknamdhobieiaaRef2
namespace Go.Proofs.Ytnknamdhobieiaa
open Go.RowKit Go.HK
set_option maxRecDepth 100000

theorem putW_zero (W : List Int) (at_ : Int) : putW W at_ [] = W := by
  unfold putW; split <;> simp
theorem putOK_take {W : List Int} {at_ : Int} {L : List Int} (h : putOK W at_ L) (j : Nat) : putOK W at_ (L.take j) := by
  unfold putOK at *; simp only [List.length_take]; omega
theorem putW_step {W : List Int} {at_ : Int} {L : List Int} (h : putOK W at_ L) {j : Nat} (hj : j < L.length) :
    (putW W at_ (L.take j)).set (at_.toNat + j) (L.getD j 0) = putW W at_ (L.take (j + 1)) := by
  have h1 := putOK_take h j
  have h2 := putOK_take h (j + 1)
  rw [putW, putW, if_pos h1, if_pos h2]
  unfold putOK at h
  apply List.ext_getElem?
  intro i
  simp only [List.getElem?_set, List.getElem?_append, List.length_take, List.getElem?_take, List.getElem?_drop, List.length_append, List.length_drop]
  by_cases e : at_.toNat + j = i
  · subst e
    rw [if_pos rfl, if_pos (by omega), if_neg (by omega), if_pos (by omega), if_pos (by omega)]
    simp [hj, Nat.min_eq_left (show at_.toNat ≤ W.length by omega)]
  · rw [if_neg e]
    by_cases c1 : i < min at_.toNat W.length
    · rw [if_pos c1, if_pos c1]
    · rw [if_neg c1, if_neg c1]
      by_cases c2 : i - min at_.toNat W.length < min j L.length
      · rw [if_pos c2, if_pos (by omega), if_pos (by omega), if_pos (by omega)]
      · rw [if_neg c2, if_neg (by omega)]
        congr 1; omega

theorem r_Put (p q : Nat) (W : List Int) (n at_ : Int) (a : Option Addr) (m c : Nat) (L : List Int) (w : World) (h : IsRef w p q W n) (hL : RdC w a m L) (hb : m ≤ 9223372036854775807)
    (hne : 0 < m → ∀ b off, a = some ⟨b, off, none⟩ → b ≠ q) :
    Calls Try.prog 20 #[.pointer (some ⟨p, 0, none⟩), .int .i64 at_, .slice a m c] w fun e w' => e = .returned (.int .i64 (putE W at_ L)) ∧
      IsRef w' p q (putW W at_ L) n ∧ Fr (foot p q) w w' := by
  have hc0 := h.str.cell 0
  have hl : (W.length : Int) ≤ 65536 := by have := h.len; omega
  have H := Lib.hid h
  have hm := hL.hlen
  by_cases hok : putOK W at_ L
  · have e1 : putE W at_ L = 0 := by rw [putE, if_pos hok]
    rw [e1]
    have h0 := hok.1
    have h1 := hok.2.1
    have h2 : (m : Int) ≤ W.length - at_ := by rw [← hm]; exact hok.2.2
    have hlen := fun j => putW_len W at_ (L.take j)
    have HO := Lib.hid hok
    have HM := Lib.hid hm
    have HLN := Lib.hid hlen
    have hpl := h.str.lt
    have hpq := h.ne
    clear e1 hok h hm hlen
    generalize hk : W.length = k at *
    have HK := Lib.hid hk
    clear hk
    go_enter Try.func20, Try.ntmps20
    go_wp2
    go_loopw [7] (fun i wr => ∃ j : Nat, i = .int .i64 j ∧ j ≤ m ∧ IsRef wr p q (putW W at_ (L.take j)) n ∧ Fr (fun x => x = q) w wr) (fun i _ => m - (intOf i).toNat)
    case atStart => exact ⟨0, rfl, by omega, by rw [List.take_zero, putW_zero]; exact H.out, Fr.refl _ _⟩
    case round =>
      obtain ⟨j, rfl, hj, hr, G⟩ := hrel
      by_cases hlt : j < m
      · obtain ⟨b, off, rfl, hbl, hcc⟩ := hL.at_ (by omega)
        have hcj := hcc j hlt
        have hbq := hne (by omega) b off rfl
        have hcx : wr.cell? ⟨b, off + j, none⟩ = some (.int .i64 (L.getD j 0)) := (World.cell?_of_block (w := w) (a := ⟨b, off + j, none⟩) (G.block b hbl hbq)).trans hcj
        have hd0 := hr.str.cell 0
        rw [HLN.out] at hd0
        have hput := hr.put (at_.toNat + j) (L.getD j 0)
        have hst := putW_step HO.out (j := j) (by rw [HM.out]; exact hlt)
        rw [hst] at hput
        have hold : wr.cell? ⟨q, at_.toNat + j, none⟩ = some (.int .i64 ((putW W at_ (L.take j)).getD (at_.toNat + j) 0)) := by
          have hlw := HLN.out j
          rw [hr.row.cell]
          simp [show at_.toNat + j < (putW W at_ (L.take j)).length by omega]
        have hfz := hr.row.frz (at_.toNat + j)
        have hid : (at_ + (j : Int)).toNat = at_.toNat + j := by omega
        have G' := (G.set (a := ⟨q, at_.toNat + j, none⟩) (.inl rfl) (.int .i64 (L.getD j 0))).drew
        have HP := Lib.hid (hput.drew)
        clear hr hst hput hcj hcc
        generalize L.getD j 0 = u at *
        generalize (putW W at_ (L.take j)).getD (at_.toNat + j) 0 = u' at *
        go_wp2
        go_region
        go_wp2
        go_roundw
        case rel => exact ⟨j + 1, by go_num, by omega, HP.out, G'⟩
        case measure => simp [intOf]; omega
      · have hd0 := hr.str.cell 0
        have e : L.take j = L := List.take_of_length_le (by have := HM.out; omega)
        rw [e] at hr
        have HR := Lib.hid hr
        clear hr e
        go_wp2
        go_ret
        exact ⟨rfl, HR.out, G.mono (fun _ _ h => .inr h)⟩
  · have e1 : putE W at_ L = 10 := by rw [putE, if_neg hok]
    have e2 : putW W at_ L = W := by rw [putW, if_neg hok]
    rw [e1, e2]
    have ho : at_ < 0 ∨ (0 ≤ at_ ∧ (W.length : Int) < at_) ∨ (0 ≤ at_ ∧ at_ ≤ (W.length : Int) ∧ (W.length : Int) - at_ < m) := by unfold putOK at hok; omega
    clear e1 e2 hok h hm hL
    generalize W.length = k at *
    rcases ho with ho | ⟨ho, ho'⟩ | ⟨ho, ho', ho''⟩
    all_goals
      go_enter Try.func20, Try.ntmps20
      go_wp2
      go_ret
      exact ⟨rfl, H.out, Fr.refl _ _⟩
end Go.Proofs.Ytnknamdhobieiaa
