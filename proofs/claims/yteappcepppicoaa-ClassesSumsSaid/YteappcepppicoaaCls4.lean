/- The contracts of package classes and of ballastref03: Check, Sum. -/
import Derived.Test.YteappcepppicoaaCls3
namespace Go.Proofs.Yteappcepppicoaa
open Go.RowKit Go.HK
set_option maxRecDepth 100000

theorem clo_any (c : Cls) (w : World) (h : I64 c.r ∧ I64 c.w ∧ I64 c.a) :
    Calls Try.prog 29 #[.agg #[.int .i64 c.r, .int .i64 c.w, .int .i64 c.a]] w fun e w' => e = .returned (.bool (!mayB c)) ∧ Fr (fun _ => False) w w' := by
  have hm := fun w => may_any c w h
  have HM := Lib.hid hm
  clear hm
  obtain ⟨r, wd, ar⟩ := c
  simp only at *
  go_enter Try.func29, Try.ntmps29
  go_wp2_with fail
  refine (HM.out _).mono ?_
  rintro e w' ⟨rfl, rfl⟩
  go_wp2
  go_ret
  exact ⟨rfl, ((Fr.refl _ w).alloc _).alloc _⟩

def IdxR (S : List Cls) (w : World) (e : Ending) (w' : World) : Prop :=
  Fr (fun _ => False) w w' ∧ ((S.all mayB = true ∧ e = .returned (.int .i64 (-1))) ∨ (S.all mayB = false ∧ ∃ r : Nat, (r : Int) ≤ 9223372036854775807 ∧ e = .returned (.int .i64 r)))

theorem all_upto {S : List Cls} {k : Nat} (h : ∀ j c, j < k → S[j]? = some c → mayB c = true) (hk : S.length ≤ k) : S.all mayB = true := by
  rw [List.all_eq_true]
  intro c hc
  obtain ⟨i, hi, rfl⟩ := List.getElem_of_mem hc
  exact h i _ (by omega) (List.getElem?_eq_getElem hi)
theorem all_not {S : List Cls} {k : Nat} {c : Cls} (hc : S[k]? = some c) (hm : mayB c = false) : S.all mayB = false := by
  rw [List.all_eq_false]
  have hi := lt_of_get hc
  rw [List.getElem?_eq_getElem hi] at hc
  cases hc
  exact ⟨_, List.getElem_mem hi, by simp [hm]⟩

theorem RdS.fr {α : Type} {s : Nat} {Q : List Value → α → Prop} {w w' : World} {a : Option Addr} {n : Nat} {S : List α} (h : RdS s Q w a n S) (k : Fr (fun _ => False) w w') : RdS s Q w' a n S :=
  h.below (k.below (Nat.le_refl _) (fun _ _ h => h))

theorem c_IndexFunc (a : Option Addr) (n cp : Nat) (S : List Cls) (w : World) (h : RdS 3 Qcl w a n S) :
    Calls Try.prog 32 #[.slice a n cp, .func (.func 29) #[] #[]] w (IdxR S w) := by
  have hn := h.le
  unfold maxLen at hn
  have hl := h.hlen
  have HL := Lib.hid hl
  clear hl
  go_enter Try.func32, Try.ntmps32
  go_wp2
  go_loopw [8] (fun i wr => ∃ k : Nat, i = .int .i64 k ∧ k ≤ n ∧ (∀ j c, j < k → S[j]? = some c → mayB c = true) ∧ Fr (fun _ => False) w wr) (fun i _ => n - (intOf i).toNat)
  case atStart => exact ⟨0, rfl, by omega, fun j c hj => by omega, Fr.refl _ _⟩
  case round =>
    obtain ⟨k, rfl, hk, hall, G⟩ := hrel
    by_cases hlt : k < n
    · have hS : S[k]? = some (S[k]'(by have := HL.out; omega)) := List.getElem?_eq_getElem _
      generalize (S[k]'(by have := HL.out; omega)) = c at hS
      obtain ⟨b, off, rfl, hb, c0, c1, c2, r0, r1, r2⟩ := (h.fr G).cls hS
      have hclo := clo_any c wr ⟨r0, r1, r2⟩
      have HA := Lib.hid hall
      have HS := Lib.hid hS
      cases hm : mayB c with
      | true =>
        rw [hm] at hclo
        have HC := Lib.hid hclo
        have HM := Lib.hid hm
        clear hclo hall hS hm
        obtain ⟨r, wd, ar⟩ := c
        simp only at *
        go_wp2_with fail
        refine HC.out.mono ?_
        rintro e w' ⟨rfl, hfr⟩
        have G' := G.trans hfr
        go_wp2
        go_roundw
        case rel =>
          refine ⟨k + 1, by go_num, by omega, fun j c hj hc => ?_, G'⟩
          by_cases hjk : j < k
          · exact HA.out j c hjk hc
          · obtain rfl : j = k := by omega
            rw [HS.out] at hc; cases hc; exact HM.out
        case measure => simp [intOf]; omega
      | false =>
        rw [hm] at hclo
        have HC := Lib.hid hclo
        have HN := Lib.hid (all_not hS hm)
        clear hclo hall hS hm
        obtain ⟨r, wd, ar⟩ := c
        simp only at *
        go_wp2_with fail
        refine HC.out.mono ?_
        rintro e w' ⟨rfl, hfr⟩
        have G' := G.trans hfr
        go_wp2
        go_ret
        exact ⟨G', .inr ⟨HN.out, k, by omega, rfl⟩⟩
    · have HN := Lib.hid (all_upto hall (by have := HL.out; omega))
      clear hall
      go_wp2
      go_ret
      exact ⟨G, .inl ⟨HN.out, rfl⟩⟩

def chkE (S : List Cls) : Int := if S.length ≤ 16 ∧ S.all mayB = true then 0 else 12

theorem c_Check (a : Option Addr) (n cp : Nat) (S : List Cls) (w : World) (h : RdS 3 Qcl w a n S) :
    Calls Try.prog 17 #[.slice a n cp] w fun e w' => e = .returned (.int .i64 (chkE S)) ∧ Fr (fun _ => False) w w' := by
  have hn := h.le
  unfold maxLen at hn
  have hl := h.hlen
  have hi := c_IndexFunc a n cp S w h
  have HI := Lib.hid hi
  have hmf := mkFunc
  clear hi h
  by_cases h16 : 16 < n
  · have e : chkE S = 12 := by unfold chkE; rw [if_neg (by omega)]
    rw [e]
    clear e hl
    go_enter Try.func17, Try.ntmps17
    go_wp2
    go_ret
    exact ⟨rfl, Fr.refl _ _⟩
  · have HL := Lib.hid hl
    clear hl
    go_enter Try.func17, Try.ntmps17
    go_wp2_with (go_at_call 28; go_in)
    refine HI.out.mono ?_
    rintro e w' ⟨hfr, ⟨hall, rfl⟩ | ⟨hall, r, hr, rfl⟩⟩
    · have e : chkE S = 0 := by unfold chkE; rw [if_pos ⟨by have := HL.out; omega, hall⟩]
      have HE := Lib.hid e
      clear e hall
      go_wp2
      go_ret
      exact ⟨by rw [HE.out]; rfl, hfr⟩
    · have e : chkE S = 12 := by unfold chkE; rw [if_neg (by simp [hall])]
      have HE := Lib.hid e
      clear e hall
      go_wp2
      go_ret
      exact ⟨by rw [HE.out]; rfl, hfr⟩

theorem r_Check (a : Option Addr) (n cp : Nat) (S : List Cls) (w : World) (h : RdS 3 Qcl w a n S) :
    Calls Try.prog 21 #[.slice a n cp] w fun e w' => e = .returned (.int .i64 (chkE S)) ∧ Fr (fun _ => False) w w' := by
  have hn := h.le
  unfold maxLen at hn
  have hl := h.hlen
  have HL := Lib.hid hl
  by_cases h16 : 16 < n
  · have e : chkE S = 12 := by unfold chkE; rw [if_neg (by omega)]
    rw [e]
    clear e hl h
    go_enter Try.func21, Try.ntmps21
    go_wp2
    go_ret
    exact ⟨rfl, Fr.refl _ _⟩
  · clear hl
    go_enter Try.func21, Try.ntmps21
    go_wp2
    go_loopw [3] (fun i wr => ∃ k : Nat, i = .int .i64 k ∧ k ≤ n ∧ (∀ j c, j < k → S[j]? = some c → mayB c = true) ∧ Fr (fun _ => False) w wr) (fun i _ => n - (intOf i).toNat)
    case atStart => exact ⟨0, rfl, by omega, fun j c hj => by omega, Fr.refl _ _⟩
    case round =>
      obtain ⟨k, rfl, hk, hall, G⟩ := hrel
      by_cases hlt : k < n
      · have hS : S[k]? = some (S[k]'(by have := HL.out; omega)) := List.getElem?_eq_getElem _
        generalize (S[k]'(by have := HL.out; omega)) = c at hS
        obtain ⟨b, off, rfl, hb, c0, c1, c2, r0, r1, r2⟩ := (h.fr G).cls hS
        have hclo := rmay_any c wr ⟨r0, r1, r2⟩
        have HA := Lib.hid hall
        have HS := Lib.hid hS
        cases hm : mayB c with
        | true =>
          rw [hm] at hclo
          have HC := Lib.hid hclo
          have HM := Lib.hid hm
          clear hclo hall hS hm
          obtain ⟨r, wd, ar⟩ := c
          simp only at *
          go_wp2_with fail
          refine HC.out.mono ?_
          rintro e w' ⟨rfl, rfl⟩
          go_wp2
          go_roundw
          case rel =>
            refine ⟨k + 1, by go_num, by omega, fun j c hj hc => ?_, G.alloc _⟩
            by_cases hjk : j < k
            · exact HA.out j c hjk hc
            · obtain rfl : j = k := by omega
              rw [HS.out] at hc; cases hc; exact HM.out
          case measure => simp [intOf]; omega
        | false =>
          rw [hm] at hclo
          have HC := Lib.hid hclo
          have hne := all_not hS hm
          have e : chkE S = 12 := by unfold chkE; rw [if_neg (by simp [hne])]
          have HE := Lib.hid e
          clear hclo hall hS hm hne e
          obtain ⟨r, wd, ar⟩ := c
          simp only at *
          go_wp2_with fail
          refine HC.out.mono ?_
          rintro e w' ⟨rfl, rfl⟩
          go_wp2
          go_ret
          exact ⟨by rw [HE.out]; rfl, G.alloc _⟩
      · have hne := all_upto hall (by have := HL.out; omega)
        have e : chkE S = 0 := by unfold chkE; rw [if_pos ⟨by have := HL.out; omega, hne⟩]
        have HE := Lib.hid e
        clear hall hne e
        go_wp2
        go_ret
        exact ⟨by rw [HE.out]; rfl, G⟩

/-! ### Sum -/
def sumP : Int → List Int → Int × Int
  | n, [] => (n, 0)
  | n, s :: t => if s < 0 ∨ 65536 - n < s then (0, 11) else sumP (n + s) t
theorem sumP_drop {n : Int} {L : List Int} {k : Nat} (hk : k < L.length) : sumP n (L.drop k) = if L.getD k 0 < 0 ∨ 65536 - n < L.getD k 0 then (0, 11) else sumP (n + L.getD k 0) (L.drop (k + 1)) := by
  rw [List.drop_eq_getElem_cons hk]
  simp [sumP, hk]

theorem c_Sum (a : Option Addr) (n cp : Nat) (L : List Int) (w : World) (h : RdI .i64 w a n L) :
    Calls Try.prog 19 #[.slice a n cp] w fun e w' => e = .returned (.tuple #[.int .i64 (sumP 0 L).1, .int .i64 (sumP 0 L).2]) ∧ w = w' := by
  have hn := h.le
  unfold maxLen at hn
  have hl := h.hlen
  have HL := Lib.hid hl
  clear hl
  go_enter Try.func19, Try.ntmps19
  go_wp2
  go_loop [4, 9] (fun s i => ∃ (k : Nat) (m : Int), i = .int .i64 k ∧ k ≤ n ∧ s = .int .i64 m ∧ 0 ≤ m ∧ m ≤ 65536 ∧ sumP 0 L = sumP m (L.drop k)) (fun _ i => n - (intOf i).toNat)
  case atStart => exact ⟨0, 0, rfl, by omega, rfl, by omega, by omega, rfl⟩
  case round =>
    obtain ⟨k, m, rfl, hk, rfl, hm, hm', hs⟩ := hrel
    by_cases hlt : k < n
    · obtain ⟨b, off, rfl, hb, hc⟩ := h.at_ (by omega)
      have hcx := hc k hlt
      rw [sumP_drop (by have := HL.out; omega)] at hs
      generalize L.getD k 0 = u at *
      have hcase : u < 0 ∨ (0 ≤ u ∧ 65536 - m < u) ∨ (0 ≤ u ∧ u ≤ 65536 - m) := by omega
      clear hc
      rcases hcase with g | ⟨g, g'⟩ | ⟨g, g'⟩
      · rw [if_pos (.inl g)] at hs
        have HS := Lib.hid hs
        clear hs
        go_wp2
        go_ret2
        exact ⟨by rw [HS.out]; rfl, rfl⟩
      · rw [if_pos (.inr g')] at hs
        have HS := Lib.hid hs
        clear hs
        go_wp2
        go_ret2
        exact ⟨by rw [HS.out]; rfl, rfl⟩
      · rw [if_neg (by omega)] at hs
        have HS := Lib.hid hs
        clear hs
        go_wp2
        go_round
        case rel => exact ⟨k + 1, m + u, by go_num, by omega, rfl, by omega, by omega, HS.out⟩
        case measure => simp [intOf]; omega
    · have e : L.drop k = [] := List.drop_eq_nil_of_le (by have := HL.out; omega)
      rw [e] at hs
      have HS := Lib.hid hs
      clear hs e
      go_wp2
      go_ret2
      exact ⟨by rw [HS.out]; rfl, rfl⟩

theorem r_Sum (a : Option Addr) (n cp : Nat) (L : List Int) (w : World) (h : RdI .i64 w a n L) :
    Calls Try.prog 20 #[.slice a n cp] w fun e w' => e = .returned (.tuple #[.int .i64 (sumP 0 L).1, .int .i64 (sumP 0 L).2]) ∧ w = w' := by
  have hn := h.le
  unfold maxLen at hn
  have hl := h.hlen
  have HL := Lib.hid hl
  clear hl
  go_enter Try.func20, Try.ntmps20
  go_wp2
  go_loop [4, 5] (fun s i => ∃ (k : Nat) (m : Int), i = .int .i64 k ∧ k ≤ n ∧ s = .int .i64 m ∧ 0 ≤ m ∧ m ≤ 65536 ∧ sumP 0 L = sumP m (L.drop k)) (fun _ i => n - (intOf i).toNat)
  case atStart => exact ⟨0, 0, rfl, by omega, rfl, by omega, by omega, rfl⟩
  case round =>
    obtain ⟨k, m, rfl, hk, rfl, hm, hm', hs⟩ := hrel
    by_cases hlt : k < n
    · obtain ⟨b, off, rfl, hb, hc⟩ := h.at_ (by omega)
      have hcx := hc k hlt
      rw [sumP_drop (by have := HL.out; omega)] at hs
      generalize L.getD k 0 = u at *
      have hcase : u < 0 ∨ (0 ≤ u ∧ 65536 - m < u) ∨ (0 ≤ u ∧ u ≤ 65536 - m) := by omega
      clear hc
      rcases hcase with g | ⟨g, g'⟩ | ⟨g, g'⟩
      · rw [if_pos (.inl g)] at hs
        have HS := Lib.hid hs
        clear hs
        go_wp2
        go_ret2
        exact ⟨by rw [HS.out]; rfl, rfl⟩
      · rw [if_pos (.inr g')] at hs
        have HS := Lib.hid hs
        clear hs
        go_wp2
        go_ret2
        exact ⟨by rw [HS.out]; rfl, rfl⟩
      · rw [if_neg (by omega)] at hs
        have HS := Lib.hid hs
        clear hs
        go_wp2
        go_round
        case rel => exact ⟨k + 1, m + u, by go_num, by omega, rfl, by omega, by omega, HS.out⟩
        case measure => simp [intOf]; omega
    · have e : L.drop k = [] := List.drop_eq_nil_of_le (by have := HL.out; omega)
      rw [e] at hs
      have HS := Lib.hid hs
      clear hs e
      go_wp2
      go_ret2
      exact ⟨by rw [HS.out]; rfl, rfl⟩
end Go.Proofs.Yteappcepppicoaa
