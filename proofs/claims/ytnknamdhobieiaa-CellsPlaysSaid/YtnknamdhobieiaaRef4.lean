/- The contract of ballastref01: Words. -/
import Derived.Test.YtnknamdhobieiaaRef3
import Derived.Test.YtnknamdhobieiaaH2
namespace Go.Proofs.Ytnknamdhobieiaa
open Go.RowKit Go.HK
set_option maxRecDepth 100000

theorem wds_take (W : List Int) (lo hi : Nat) (hh : hi ≤ W.length) {j : Nat} (hj : lo + j < hi) : ((W.take hi).drop lo).take (j + 1) = ((W.take hi).drop lo).take j ++ [W.getD (lo + j) 0] := by
  rw [List.take_add_one]
  congr 1
  rw [List.getElem?_drop, List.getElem?_take, if_pos hj, List.getElem?_eq_getElem (show lo + j < W.length by omega), List.getD_eq_getElem?_getD, List.getElem?_eq_getElem (show lo + j < W.length by omega)]
  rfl

theorem r_Words (p q : Nat) (W : List Int) (n f t : Int) (w : World) (h : IsRef w p q W n) (hf1 : f ≤ 9223372036854775807) :
    Calls Try.prog 23 #[.pointer (some ⟨p, 0, none⟩), .int .i64 f, .int .i64 t] w fun e w' => ∃ v, e = .returned v ∧
      w'.ownsRow w.heap.size 2 1 v (wds W f t).length ((wds W f t).map (.int .i64)) ∧ Fr (fun _ => False) w w' := by
  have hl : (W.length : Int) ≤ 65536 := by have := h.len; omega
  obtain ⟨i0, hi, hz0, hz1, hz2⟩ := info_parts info_i64
  have H := Lib.hid h
  have hh := hiN_le W t
  have hL := wds_len W f t
  have hW : wds W f t = (W.take (hiN W t)).drop (loN f) := rfl
  have hhi : hiN W t = (if (W.length : Int) < t then (W.length : Int) else t).toNat := rfl
  have hlo : loN f = f.toNat := rfl
  obtain ⟨R, hR⟩ : ∃ R, R = wds W f t := ⟨_, rfl⟩
  rw [← hR] at hL hW ⊢
  have hstep : ∀ j, loN f + j < hiN W t → R.take (j + 1) = R.take j ++ [W.getD (loN f + j) 0] := by
    intro j hj; rw [hW]; exact wds_take W _ _ hh hj
  have hle : ∀ j, (R.take j).length = min j R.length := fun j => List.length_take
  have HST := Lib.hid hstep
  have HLE := Lib.hid hle
  have HL := Lib.hid hL
  have hgl : ∀ (j : Nat), (j : Int) < W.length → w.cell? ⟨q, j, none⟩ = some (.int .i64 (W.getD j 0)) := by
    intro j hj
    have := h.cell (at_ := (j : Int)) (by omega) hj
    simpa using this
  have HG := Lib.hid hgl
  clear hgl hstep hle hL hW hR
  obtain ⟨hi', hhi'⟩ : ∃ x, x = hiN W t := ⟨_, rfl⟩
  rw [← hhi'] at hh hhi HST HL
  have hends : (hi' : Int) ≤ W.length ∧ (hi' = 0 ∧ t ≤ 0 ∨ (hi' : Int) = W.length ∧ (W.length : Int) < t ∨ (hi' : Int) = t ∧ t ≤ W.length) := by
    split at hhi <;> omega
  have hc0 := h.str.cell 0
  have hc0l : hc0 = hc0 := rfl
  clear hc0l hhi hhi' h
  have HE := Lib.hid hends
  obtain ⟨k, hk⟩ : ∃ k, k = W.length := ⟨_, rfl⟩
  rw [← hk] at hh hl hends HE hc0
  have HKW := Lib.hid hk
  clear hk
  obtain ⟨lo, hlo2⟩ : ∃ lo, lo = loN f := ⟨_, rfl⟩
  rw [← hlo2] at hlo HST HL
  have hff : f < 0 ∧ lo = 0 ∨ f = (lo : Int) ∧ 0 ≤ f := by omega
  clear hlo hlo2
  have main : ∀ (j : Nat) (wr : World) (v : Value), j ≤ R.length → wr.ownsRow w.heap.size 2 1 v j ((R.take j).map (.int .i64)) → lo + j < hi' →
      ∀ (v' : Value) (w4 : World), w4.ownsRow w.heap.size 2 1 v' (j + 1) ((R.take j).map (.int .i64) ++ [.int .i64 (W.getD (lo + j) 0)]) → w4.ownsRow w.heap.size 2 1 v' (j + 1) ((R.take (j + 1)).map (.int .i64)) := by
    intro j wr v hj _ hlt v' w4 h4
    rw [HST.out j hlt]; simpa using h4
  have HMAIN := Lib.hid main
  clear main
  have hRl : R.length ≤ 65536 := by have := HL.out; omega
  have hlo64 : (lo : Int) ≤ 9223372036854775807 := by omega
  have hst0 : f < 0 → lo = 0 := by omega
  have HS0 := Lib.hid hst0
  clear hst0
  rcases hff with ⟨hneg, hlo0⟩ | ⟨rfl, hneg⟩
  all_goals
    first
      | clear hlo0
      | skip
    go_enter Try.func23, Try.ntmps23
    go_wp2
    go_loopw [7, 8] (fun v i wr => ∃ j : Nat, i = .int .i64 ((lo : Int) + (j : Int)) ∧ j ≤ R.length ∧ wr.ownsRow w.heap.size 2 1 v j ((R.take j).map (.int .i64)) ∧ Fr (fun _ => False) w wr) (fun _ i _ => (65536 + lo - intOf i).toNat)
    case atStart =>
      refine ⟨0, ?_, by omega, World.ownsRow_nil _ _ _ _, Fr.refl _ _⟩
      first
        | rfl
        | (rw [HS0.out hneg]; rfl)
        | simp
    case round =>
      obtain ⟨j, rfl, hj, hown, G⟩ := hrel
      have hc0' := G.cell2 hc0 (fun h => h)
      by_cases hlt : lo + j < hi'
      · have ht : (lo : Int) + j < t := by omega
        have hkk : (lo : Int) + j < k := by omega
        have hcx := G.cell2 (HG.out (lo + j) (by have := HKW.out; omega)) (fun h => h)
        have HMJ := Lib.hid (HMAIN.out j wr _ hj hown hlt)
        have hRl2 : j + 1 ≤ R.length := by have := HL.out; omega
        have hlb := fun g hg => (hown.lt g hg)
        have HLB := Lib.hid hlb
        clear hlb
        generalize W.getD (lo + j) 0 = u at *
        generalize hTT : (R.take j).map (Value.int .i64) = TT at *
        go_wp2_with (at_builtin; refine wpList_append_own _ rfl _ _ 29 rfl w.heap.size 2 i0 (.int .i64 0) 1 8 Try.underlying29 hi hz0 hz1 hz2 rfl (by decide) _ _ _ rfl (hown.alloc _) ⟨wr.heap.size, 0, none⟩ 1 1 [.int .i64 u] rfl rfl ?_ ?_ ?_ ?_ ?_ ?_)
        case refine_1 =>
          intro i x hx
          match i, hx with
          | 0, hx => simp at hx; subst hx; simp [Addr.add]
        case refine_2 => intro x hx; simp at hx; subst hx; rfl
        case refine_3 => unfold maxLen; omega
        case refine_4 => omega
        case refine_5 => have := G.size; simp; omega
        intro v' w4 hown4 hgrow _
        have G4 := (G.alloc (.cells #[.int .i64 u] 2)).grown hgrow (fun k hk => .inr (HLB.out _ hk).1)
        have HO4 := Lib.hid (HMJ.out v' w4 hown4)
        clear hown4 hgrow hown G hcx hc0' hTT
        go_wp2
        go_roundw
        case rel => exact ⟨j + 1, by go_num, hRl2, HO4.out, G4⟩
        case measure => simp [intOf]; omega
      · have hx : t ≤ (lo : Int) + j ∨ (k : Int) ≤ (lo : Int) + j := by omega
        have hjj : R.length = j := by have := HL.out; omega
        have e : R.take j = R := List.take_of_length_le (by omega)
        rw [e] at hown
        have hfin := hown
        rw [← hjj] at hfin
        have HF := Lib.hid hfin
        clear hown hfin hjj e
        by_cases ht : (lo : Int) + j < t
        · have hkk : (k : Int) ≤ (lo : Int) + j := by omega
          clear hx
          go_wp2
          go_ret
          exact ⟨_, rfl, HF.out, G⟩
        · clear hx
          go_wp2
          go_ret
          exact ⟨_, rfl, HF.out, G⟩
end Go.Proofs.Ytnknamdhobieiaa
