/- The contracts of ballastref03: Size. -/
import Derived.Test.YteappcepppicoaaCls2
namespace Go.Proofs.Yteappcepppicoaa
open Go.RowKit Go.HK
set_option maxRecDepth 100000

set_option maxHeartbeats 1000000 in
theorem r_Size (a : Option Addr) (n cp : Nat) (S : List Cls) (k len : Int) (w : World) (h : RdS 3 Qcl w a n S) (hlen : I64 len) :
    Calls Try.prog 18 #[.slice a n cp, .int .i64 k, .int .i64 len] w fun e w' => e = .returned (.tuple #[.int .i64 (sizeP S k len).1, .int .i64 (sizeP S k len).2]) ∧ Fr (fun _ => False) w w' := by
  obtain ⟨l1, l2⟩ := hlen
  have hn := h.le
  unfold maxLen at hn
  cases hc : fndC S k with
  | none =>
    have hs : sizeP S k len = if k = 0 then (if len < 0 ∨ 65535 < len then (0, 11) else (1 + len, 0)) else (0, 12) := by rw [sizeP, hc]
    rw [hs]
    have hkk : k = 0 ∨ k < 0 ∨ (1 ≤ k ∧ (n : Int) < k) := by
      unfold fndC at hc
      split at hc
      · have := List.getElem?_eq_none_iff.1 hc; have := h.hlen; omega
      · omega
    clear hs hc h
    rcases hkk with rfl | hk | ⟨hk, hk'⟩
    · rw [if_pos rfl]
      by_cases h1 : len < 0
      · rw [if_pos (.inl h1)]
        go_enter Try.func18, Try.ntmps18
        go_wp2
        go_ret2
        exact ⟨rfl, (by repeat (first | exact Fr.refl _ _ | apply Fr.alloc | apply Fr.drew))⟩
      · by_cases h2 : 65535 < len
        · rw [if_pos (.inr h2)]
          go_enter Try.func18, Try.ntmps18
          go_wp2
          go_ret2
          exact ⟨rfl, (by repeat (first | exact Fr.refl _ _ | apply Fr.alloc | apply Fr.drew))⟩
        · rw [if_neg (by omega)]
          go_enter Try.func18, Try.ntmps18
          go_wp2
          go_ret2
          exact ⟨rfl, (by repeat (first | exact Fr.refl _ _ | apply Fr.alloc | apply Fr.drew))⟩
    · rw [if_neg (by omega)]
      go_enter Try.func18, Try.ntmps18
      go_wp2
      go_ret2
      exact ⟨rfl, (by repeat (first | exact Fr.refl _ _ | apply Fr.alloc | apply Fr.drew))⟩
    · rw [if_neg (by omega)]
      go_enter Try.func18, Try.ntmps18
      go_wp2
      go_ret2
      exact ⟨rfl, (by repeat (first | exact Fr.refl _ _ | apply Fr.alloc | apply Fr.drew))⟩
  | some c =>
    have hs : sizeP S k len = if mayB c then (if len < 0 ∨ (if c.a = 0 then (0 : Int) else 1024) < len then (0, 11) else (1 + c.r + c.w + len, 0)) else (0, 12) := by rw [sizeP, hc]
    rw [hs]
    have hk : 1 ≤ k := by
      unfold fndC at hc; split at hc
      · assumption
      · cases hc
    rw [fndC, if_pos hk] at hc
    have hlt := lt_of_get hc
    have hkn : k ≤ (n : Int) := by have := h.hlen; omega
    obtain ⟨b, off, rfl, hb, c0, c1, c2, r0, r1, r2⟩ := h.cls hc
    have hmay := fun w => rmay_any c w ⟨r0, r1, r2⟩
    clear hs hc h
    cases hm : mayB c with
    | false =>
      rw [hm] at hmay
      have HM := Lib.hid hmay
      rw [if_neg (by simp)]
      clear hmay hm
      obtain ⟨r, wd, ar⟩ := c
      simp only at *
      go_enter Try.func18, Try.ntmps18
      go_wp2_with (first | (go_at_call 31; refine (HM.out _).mono ?_; rintro e w' ⟨rfl, rfl⟩) | go_in)
      go_ret2
      exact ⟨rfl, (by repeat (first | exact Fr.refl _ _ | apply Fr.alloc | apply Fr.drew | (refine Fr.set ?_ (.inr ?_) _; (case' refine_2 => simp))))⟩
    | true =>
      rw [hm] at hmay
      have HM := Lib.hid hmay
      rw [if_pos rfl]
      have hmay' := May_of hm
      have hb : 0 ≤ c.r ∧ c.r ≤ 64 ∧ 0 ≤ c.w ∧ c.w ≤ 64 ∧ 0 ≤ c.a := by unfold Cls.May at hmay'; omega
      obtain ⟨b1, b2, b3, b4, b5⟩ := hb
      clear hmay hm hmay'
      obtain ⟨r, wd, ar⟩ := c
      simp only at *
      have h0 : ar = 0 ∨ 0 < ar := by omega
      by_cases h1 : len < 0
      · rw [if_pos (.inl h1)]
        rcases h0 with rfl | h0
        · go_enter Try.func18, Try.ntmps18
          go_wp2_with (first | (go_at_call 31; refine (HM.out _).mono ?_; rintro e w' ⟨rfl, rfl⟩) | go_in)
          go_ret2
          exact ⟨rfl, (by repeat (first | exact Fr.refl _ _ | apply Fr.alloc | apply Fr.drew | (refine Fr.set ?_ (.inr ?_) _; (case' refine_2 => simp))))⟩
        · go_enter Try.func18, Try.ntmps18
          go_wp2_with (first | (go_at_call 31; refine (HM.out _).mono ?_; rintro e w' ⟨rfl, rfl⟩) | go_in)
          go_ret2
          exact ⟨rfl, (by repeat (first | exact Fr.refl _ _ | apply Fr.alloc | apply Fr.drew | (refine Fr.set ?_ (.inr ?_) _; (case' refine_2 => simp))))⟩
      · rcases h0 with rfl | h0
        · rw [if_pos rfl]
          by_cases h2 : 0 < len
          · rw [if_pos (.inr h2)]
            go_enter Try.func18, Try.ntmps18
            go_wp2_with (first | (go_at_call 31; refine (HM.out _).mono ?_; rintro e w' ⟨rfl, rfl⟩) | go_in)
            go_ret2
            exact ⟨rfl, (by repeat (first | exact Fr.refl _ _ | apply Fr.alloc | apply Fr.drew | (refine Fr.set ?_ (.inr ?_) _; (case' refine_2 => simp))))⟩
          · rw [if_neg (by omega)]
            go_enter Try.func18, Try.ntmps18
            go_wp2_with (first | (go_at_call 31; refine (HM.out _).mono ?_; rintro e w' ⟨rfl, rfl⟩) | go_in)
            go_ret2
            exact ⟨rfl, (by repeat (first | exact Fr.refl _ _ | apply Fr.alloc | apply Fr.drew | (refine Fr.set ?_ (.inr ?_) _; (case' refine_2 => simp))))⟩
        · rw [if_neg (show ¬ ar = 0 by omega)]
          by_cases h2 : 1024 < len
          · rw [if_pos (.inr h2)]
            go_enter Try.func18, Try.ntmps18
            go_wp2_with (first | (go_at_call 31; refine (HM.out _).mono ?_; rintro e w' ⟨rfl, rfl⟩) | go_in)
            go_ret2
            exact ⟨rfl, (by repeat (first | exact Fr.refl _ _ | apply Fr.alloc | apply Fr.drew | (refine Fr.set ?_ (.inr ?_) _; (case' refine_2 => simp))))⟩
          · rw [if_neg (by omega)]
            go_enter Try.func18, Try.ntmps18
            go_wp2_with (first | (go_at_call 31; refine (HM.out _).mono ?_; rintro e w' ⟨rfl, rfl⟩) | go_in)
            go_ret2
            exact ⟨rfl, (by repeat (first | exact Fr.refl _ _ | apply Fr.alloc | apply Fr.drew | (refine Fr.set ?_ (.inr ?_) _; (case' refine_2 => simp))))⟩
end Go.Proofs.Yteappcepppicoaa
