/- The contracts of package classes and of ballastref03: find (none), Size, Sum. -/
import Derived.Test.YteappcepppicoaaCls1
namespace Go.Proofs.Yteappcepppicoaa
open Go.RowKit Go.HK
set_option maxRecDepth 100000

theorem find_none (a : Option Addr) (n cp : Nat) (S : List Cls) (k : Int) (w : World) (h : RdS 3 Qcl w a n S) (hc : fndC S k = none) :
    Calls Try.prog 25 #[.slice a n cp, .int .i64 k] w fun e w' => e = .returned (.tuple #[.agg #[.int .i64 0, .int .i64 0, .int .i64 0], .bool false]) ∧ Fr (fun _ => False) w w' := by
  have hk : k < 1 ∨ (1 ≤ k ∧ (n : Int) < k) := by
    unfold fndC at hc
    split at hc
    · have := List.getElem?_eq_none_iff.1 hc; have := h.hlen; omega
    · omega
  clear h hc
  rcases hk with hk | ⟨hk, hk'⟩
  all_goals
    go_enter Try.func25, Try.ntmps25
    go_wp2
    exact bodyPost_ret (v := .tuple #[.agg #[.int .i64 0, .int .i64 0, .int .i64 0], .bool false]) (by simp [results, Try.results25, go_sem]) rfl ⟨rfl, (Fr.refl _ w).alloc _⟩

/-- a size and an error -/
def sizeP (S : List Cls) (k len : Int) : Int × Int :=
  match fndC S k with
  | some c => if mayB c then (if len < 0 ∨ (if c.a = 0 then (0 : Int) else 1024) < len then (0, 11) else (1 + c.r + c.w + len, 0)) else (0, 12)
  | none => if k = 0 then (if len < 0 ∨ 65535 < len then (0, 11) else (1 + len, 0)) else (0, 12)

theorem May_of {c : Cls} (h : mayB c = true) : c.May := of_decide_eq_true h

theorem c_Size (a : Option Addr) (n cp : Nat) (S : List Cls) (k len : Int) (w : World) (h : RdS 3 Qcl w a n S) (hlen : I64 len) :
    Calls Try.prog 14 #[.slice a n cp, .int .i64 k, .int .i64 len] w fun e w' => e = .returned (.tuple #[.int .i64 (sizeP S k len).1, .int .i64 (sizeP S k len).2]) ∧ Fr (fun _ => False) w w' := by
  obtain ⟨l1, l2⟩ := hlen
  cases hc : fndC S k with
  | none =>
    have hf := find_none a n cp S k w h hc
    have HF := Lib.hid hf
    have hs : sizeP S k len = if k = 0 then (if len < 0 ∨ 65535 < len then (0, 11) else (1 + len, 0)) else (0, 12) := by rw [sizeP, hc]
    rw [hs]
    clear hf hs hc h
    by_cases hk : k = 0
    · have hkb : (k != 0) = false := by simpa using hk
      rw [if_pos hk]
      clear hk
      by_cases h1 : len < 0
      · rw [if_pos (.inl h1)]
        go_enter Try.func14, Try.ntmps14
        go_wp2_with (first | (go_at_call 25; refine HF.out.mono ?_; rintro e w' ⟨rfl, hfr⟩) | go_in)
        go_ret2
        exact ⟨rfl, (by repeat (first | exact hfr | apply Fr.alloc | apply Fr.drew))⟩
      · by_cases h2 : 65535 < len
        · rw [if_pos (.inr h2)]
          go_enter Try.func14, Try.ntmps14
          go_wp2_with (first | (go_at_call 25; refine HF.out.mono ?_; rintro e w' ⟨rfl, hfr⟩) | go_in)
          go_ret2
          exact ⟨rfl, (by repeat (first | exact hfr | apply Fr.alloc | apply Fr.drew))⟩
        · rw [if_neg (by omega)]
          go_enter Try.func14, Try.ntmps14
          go_wp2_with (first | (go_at_call 25; refine HF.out.mono ?_; rintro e w' ⟨rfl, hfr⟩) | go_in)
          go_ret2
          exact ⟨rfl, (by repeat (first | exact hfr | apply Fr.alloc | apply Fr.drew))⟩
    · have hkb : (k != 0) = true := by simpa using hk
      rw [if_neg hk]
      clear hk
      go_enter Try.func14, Try.ntmps14
      go_wp2_with (first | (go_at_call 25; refine HF.out.mono ?_; rintro e w' ⟨rfl, hfr⟩) | go_in)
      go_ret2
      exact ⟨rfl, (by repeat (first | exact hfr | apply Fr.alloc | apply Fr.drew))⟩
  | some c =>
    have hf := find_some a n cp S k c w h hc
    have hs : sizeP S k len = if mayB c then (if len < 0 ∨ (if c.a = 0 then (0 : Int) else 1024) < len then (0, 11) else (1 + c.r + c.w + len, 0)) else (0, 12) := by rw [sizeP, hc]
    rw [hs]
    have hk : (k != 0) = true := by
      unfold fndC at hc; split at hc
      · simp; omega
      · cases hc
    cases hm : mayB c with
    | false =>
      rw [hm] at hf
      have HF := Lib.hid hf
      rw [if_neg (by simp)]
      clear hf hs hc h hm
      go_enter Try.func14, Try.ntmps14
      go_wp2_with (first | (go_at_call 25; refine HF.out.mono ?_; rintro e w' ⟨rfl, hfr⟩) | go_in)
      go_ret2
      exact ⟨rfl, (by repeat (first | exact hfr | apply Fr.alloc | apply Fr.drew))⟩
    | true =>
      rw [hm] at hf
      have HF := Lib.hid hf
      rw [if_pos rfl]
      have hmay := May_of hm
      have hb : 0 ≤ c.r ∧ c.r ≤ 64 ∧ 0 ≤ c.w ∧ c.w ≤ 64 := by unfold Cls.May at hmay; omega
      obtain ⟨b1, b2, b3, b4⟩ := hb
      clear hf hs hc h hm hmay
      obtain ⟨r, wd, ar⟩ := c
      simp only at *
      by_cases h1 : len < 0
      · rw [if_pos (.inl h1)]
        by_cases h0 : ar = 0
        · have hab : (ar == 0) = true := by simpa using h0
          clear h0
          go_enter Try.func14, Try.ntmps14
          go_wp2_with (first | (go_at_call 25; refine HF.out.mono ?_; rintro e w' ⟨rfl, hfr⟩) | go_in)
          go_ret2
          exact ⟨rfl, (by repeat (first | exact hfr | apply Fr.alloc | apply Fr.drew))⟩
        · have hab : (ar == 0) = false := by simpa using h0
          clear h0
          go_enter Try.func14, Try.ntmps14
          go_wp2_with (first | (go_at_call 25; refine HF.out.mono ?_; rintro e w' ⟨rfl, hfr⟩) | go_in)
          go_ret2
          exact ⟨rfl, (by repeat (first | exact hfr | apply Fr.alloc | apply Fr.drew))⟩
      · by_cases h0 : ar = 0
        · have hab : (ar == 0) = true := by simpa using h0
          rw [if_pos h0]
          clear h0
          by_cases h2 : 0 < len
          · rw [if_pos (.inr h2)]
            go_enter Try.func14, Try.ntmps14
            go_wp2_with (first | (go_at_call 25; refine HF.out.mono ?_; rintro e w' ⟨rfl, hfr⟩) | go_in)
            go_ret2
            exact ⟨rfl, (by repeat (first | exact hfr | apply Fr.alloc | apply Fr.drew))⟩
          · rw [if_neg (by omega)]
            go_enter Try.func14, Try.ntmps14
            go_wp2_with (first | (go_at_call 25; refine HF.out.mono ?_; rintro e w' ⟨rfl, hfr⟩) | go_in)
            go_ret2
            exact ⟨rfl, (by repeat (first | exact hfr | apply Fr.alloc | apply Fr.drew))⟩
        · have hab : (ar == 0) = false := by simpa using h0
          rw [if_neg h0]
          clear h0
          by_cases h2 : 1024 < len
          · rw [if_pos (.inr h2)]
            go_enter Try.func14, Try.ntmps14
            go_wp2_with (first | (go_at_call 25; refine HF.out.mono ?_; rintro e w' ⟨rfl, hfr⟩) | go_in)
            go_ret2
            exact ⟨rfl, (by repeat (first | exact hfr | apply Fr.alloc | apply Fr.drew))⟩
          · rw [if_neg (by omega)]
            go_enter Try.func14, Try.ntmps14
            go_wp2_with (first | (go_at_call 25; refine HF.out.mono ?_; rintro e w' ⟨rfl, hfr⟩) | go_in)
            go_ret2
            exact ⟨rfl, (by repeat (first | exact hfr | apply Fr.alloc | apply Fr.drew))⟩
end Go.Proofs.Yteappcepppicoaa
