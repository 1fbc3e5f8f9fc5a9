/- The contracts of package classes and of ballastref03: Ref, Header, Parts. -/
import Derived.Test.YteappcepppicoaaCls5
namespace Go.Proofs.Yteappcepppicoaa
open Go.RowKit Go.HK
set_option maxRecDepth 100000

theorem mem_refsUp (c : Cls) (j : Nat) (i : Int) : i ∈ refsUp c j ↔ 1 ≤ i ∧ i ≤ j ∧ isRefB c i = true := by
  induction j with
  | zero => simp [refsUp]; omega
  | succ j ih =>
    unfold refsUp
    by_cases h : isRefB c ((j : Int) + 1) = true
    · rw [if_pos h, List.mem_append, ih]
      constructor
      · rintro (⟨h1, h2, h3⟩ | h1)
        · exact ⟨h1, by omega, h3⟩
        · simp at h1; subst h1; exact ⟨by omega, by omega, h⟩
      · rintro ⟨h1, h2, h3⟩
        by_cases e : i = (j : Int) + 1
        · right; simp [e]
        · left; exact ⟨h1, by omega, h3⟩
    · rw [if_neg h, ih]
      constructor
      · rintro ⟨h1, h2, h3⟩; exact ⟨h1, by omega, h3⟩
      · rintro ⟨h1, h2, h3⟩
        have : i ≠ (j : Int) + 1 := by rintro rfl; exact h h3
        exact ⟨h1, by omega, h3⟩

def refB (S : List Cls) (k len i : Int) : Bool := decide (i ∈ refsL S k len)

theorem refB_eq (S : List Cls) (k len i : Int) : refB S k len i = (fndB S k && decide ((sizeP S k len).2 = 0) && decide (0 < i) && decide (i < (sizeP S k len).1) && isRefB (fndV S k) i) := by
  have hb := size_bd S k len
  unfold refB refsL
  rw [objC_eq]
  by_cases h : fndB S k = true ∧ (sizeP S k len).2 = 0
  · rw [if_pos h, h.1, h.2]
    simp only [mem_refsUp, decide_true, Bool.true_and]
    rw [Bool.eq_iff_iff]
    simp only [decide_eq_true_eq, Bool.and_eq_true]
    constructor
    · rintro ⟨h1, h2, h3⟩; exact ⟨⟨by omega, by omega⟩, h3⟩
    · rintro ⟨⟨h1, h2⟩, h3⟩; exact ⟨by omega, by omega, h3⟩
  · rw [if_neg h]
    simp only [List.not_mem_nil, decide_false]
    rcases Bool.eq_false_or_eq_true (fndB S k) with h1 | h1
    · have h2 : ¬ (sizeP S k len).2 = 0 := fun h2 => h ⟨h1, h2⟩
      simp [h1, h2]
    · simp [h1]

set_option maxHeartbeats 1000000 in
theorem c_Ref (a : Option Addr) (n cp : Nat) (S : List Cls) (k len i : Int) (w : World) (h : RdS 3 Qcl w a n S) (hlen : I64 len) :
    Calls Try.prog 16 #[.slice a n cp, .int .i64 k, .int .i64 len, .int .i64 i] w fun e w' => e = .returned (.bool (refB S k len i)) ∧ Fr (fun _ => False) w w' := by
  have hsz := c_Size a n cp S k len w h hlen
  have HZ := Lib.hid hsz
  have hf := fun w' (f : Fr (fun _ => False) w w') => find_any a n cp S k w' (h.fr f)
  have HF := Lib.hid hf
  have he := refB_eq S k len i
  rw [he]
  have hr := fun i w => isRef_any (fndV S k) i w
  have HR := Lib.hid hr
  clear hsz hf he hr h
  generalize (sizeP S k len).1 = sz at *
  generalize (sizeP S k len).2 = se at *
  generalize fndV S k = c at *
  generalize fndB S k = ib at *
  obtain ⟨r, wd, ar⟩ := c
  simp only at HF HR
  have hcase : ib = false ∨ (ib = true ∧ ¬ se = 0) ∨ (ib = true ∧ se = 0 ∧ ¬ 0 < i) ∨ (ib = true ∧ se = 0 ∧ 0 < i ∧ ¬ i < sz) ∨ (ib = true ∧ se = 0 ∧ 0 < i ∧ i < sz) := by
    cases ib <;> simp; omega
  rcases hcase with rfl | ⟨rfl, hs⟩ | ⟨rfl, rfl, hi⟩ | ⟨rfl, rfl, hi, hi2⟩ | ⟨rfl, rfl, hi, hi2⟩
  · go_enter Try.func16, Try.ntmps16
    go_wp2_with fail
    refine HZ.out.mono ?_
    rintro e w1 ⟨rfl, f1⟩
    go_wp2_with fail
    refine (HF.out _ f1).mono ?_
    rintro e w2 ⟨rfl, f2⟩
    go_wp2
    go_ret
    exact ⟨by simp, (f1.trans f2).alloc _⟩
  · have hsb : (se == 0) = false := by simpa using hs
    have HS := Lib.hid hs
    clear hs
    go_enter Try.func16, Try.ntmps16
    go_wp2_with fail
    refine HZ.out.mono ?_
    rintro e w1 ⟨rfl, f1⟩
    go_wp2_with fail
    refine (HF.out _ f1).mono ?_
    rintro e w2 ⟨rfl, f2⟩
    go_wp2
    go_ret
    exact ⟨by simp [HS.out], (f1.trans f2).alloc _⟩
  · go_enter Try.func16, Try.ntmps16
    go_wp2_with fail
    refine HZ.out.mono ?_
    rintro e w1 ⟨rfl, f1⟩
    go_wp2_with fail
    refine (HF.out _ f1).mono ?_
    rintro e w2 ⟨rfl, f2⟩
    go_wp2
    go_ret
    exact ⟨by simp [show ¬ 0 < i by omega], (f1.trans f2).alloc _⟩
  · go_enter Try.func16, Try.ntmps16
    go_wp2_with fail
    refine HZ.out.mono ?_
    rintro e w1 ⟨rfl, f1⟩
    go_wp2_with fail
    refine (HF.out _ f1).mono ?_
    rintro e w2 ⟨rfl, f2⟩
    go_wp2
    go_ret
    exact ⟨by simp [show ¬ i < sz by omega], (f1.trans f2).alloc _⟩
  · go_enter Try.func16, Try.ntmps16
    go_wp2_with fail
    refine HZ.out.mono ?_
    rintro e w1 ⟨rfl, f1⟩
    go_wp2_with fail
    refine (HF.out _ f1).mono ?_
    rintro e w2 ⟨rfl, f2⟩
    go_wp2_with fail
    refine (HR.out i _).mono ?_
    rintro e w3 ⟨rfl, f3⟩
    go_wp2
    go_ret
    exact ⟨by simp [hi, hi2], ((f1.trans f2).alloc _).trans f3⟩

/-- what is owned, its elements one by one -/
theorem owns_at {w : World} {base : Nat} {v : Value} {n : Nat} {L : List Int} (h : w.ownsRow base 3 1 v n (L.map (.int .i64))) :
    ∃ a cap, v = .slice a n cap ∧ L.length = n ∧ (0 < n → ∃ g, a = some ⟨g, 0, none⟩ ∧ base ≤ g ∧ g < w.heap.size ∧ ∀ i, i < n → w.cell? ⟨g, i, none⟩ = some (.int .i64 (L.getD i 0))) := by
  have hl : L.length = n := by have := h.1; simpa using this
  obtain ⟨a, cap, hv, hr⟩ := owns_rd h
  refine ⟨a, cap, hv, hl, fun h0 => ?_⟩
  obtain ⟨g, ha, hb, hlt, hc⟩ := hr h0
  refine ⟨g, ha, hb, hlt, fun i hi => ?_⟩
  exact hc i (.int .i64 (L.getD i 0)) (by simp [List.getElem?_eq_getElem (show i < L.length by omega)])

theorem r_Ref (a : Option Addr) (n cp : Nat) (S : List Cls) (k len i : Int) (w : World) (h : RdS 3 Qcl w a n S) (hlen : I64 len) :
    Calls Try.prog 22 #[.slice a n cp, .int .i64 k, .int .i64 len, .int .i64 i] w fun e w' => e = .returned (.bool (refB S k len i)) ∧ Fr (fun _ => False) w w' := by
  have hr := r_Refs a n cp S k len w h hlen
  have HR := Lib.hid hr
  have hle : (refsL S k len).length ≤ 65536 := by
    have := size_bd S k len
    unfold refsL
    cases objC S k len with
    | none => simp
    | some c => have := refsUp_le c ((sizeP S k len).1 - 1).toNat; simp only; omega
  clear hr h
  unfold refB
  generalize refsL S k len = L at *
  go_enter Try.func22, Try.ntmps22
  go_wp2_with fail
  refine HR.out.mono ?_
  rintro e w1 ⟨v, rfl, hv, f1⟩
  obtain ⟨sa, cap, rfl, _, hc⟩ := owns_at hv
  obtain ⟨m, hm⟩ : ∃ m, m = L.length := ⟨_, rfl⟩
  have HM := Lib.hid hm
  rw [← hm] at hc hle ⊢
  clear hv hm
  go_wp2_with fail
  go_loop [10] (fun x => ∃ j : Nat, x = .int .i64 j ∧ j ≤ m ∧ ∀ t, t < j → L.getD t 0 ≠ i) (fun x => m - (intOf x).toNat)
  case atStart => exact ⟨0, rfl, by omega, fun t ht => by omega⟩
  case round =>
    obtain ⟨j, rfl, hj, hno⟩ := hrel
    by_cases hlt : j < m
    · obtain ⟨g, rfl, _, _, hg⟩ := hc (by omega)
      have hx := hg j hlt
      have HN := Lib.hid hno
      have hmem : L.getD j 0 ∈ L := by
        have h1 : j < L.length := by have := HM.out; omega
        rw [List.getD_eq_getElem?_getD, List.getElem?_eq_getElem h1]
        exact List.getElem_mem h1
      have HMM := Lib.hid hmem
      have hu : ∃ u, u = L.getD j 0 := ⟨_, rfl⟩
      obtain ⟨u, hu⟩ := hu
      rw [← hu] at hx
      have HU := Lib.hid hu
      clear hno hg hmem hu
      by_cases he : u = i
      · have hb : (u == i) = true := by simpa using he
        have HE := Lib.hid he
        clear he
        go_wp2
        go_ret
        refine ⟨?_, f1⟩
        have := HMM.out
        rw [← HU.out, HE.out] at this
        simp [this]
      · have hb : (u == i) = false := by simpa using he
        have HE := Lib.hid he
        clear he
        go_wp2
        go_round
        case rel =>
          refine ⟨j + 1, by go_num, by omega, fun t ht => ?_⟩
          by_cases htj : t < j
          · exact HN.out t htj
          · obtain rfl : t = j := by omega
            rw [← HU.out]; exact HE.out
        case measure => simp [intOf]; omega
    · have hnot : i ∉ L := by
        intro hm'
        obtain ⟨t, ht, e⟩ := List.getElem_of_mem hm'
        refine hno t (by have := HM.out; omega) ?_
        rw [List.getD_eq_getElem?_getD, List.getElem?_eq_getElem ht]; exact e
      have HN := Lib.hid hnot
      clear hno hnot
      go_wp2
      go_ret
      exact ⟨by simp [HN.out], f1⟩
end Go.Proofs.Yteappcepppicoaa
