/- Stuck; Pick and Run over tasks whose steps tell by their number. -/
import Derived.Test.YthpghoafjpbdbaaTurns7
namespace Go.Proofs.Ythpghoafjpbdbaa
open Go.RowKit Go.HK
set_option maxRecDepth 100000

def anyW (T : List Tk) : Bool := T.any (fun t => t.st == 1)

theorem c_isW (t : Tk) (w : World) (h : Blk w t.blk 66 t.cells) :
    Calls Try.prog 33 #[t.ptr] w fun e w' => e = .returned (.bool (t.st == 1)) ∧ w' = w := by
  have hc : w.cell? ⟨t.blk, 1, none⟩ = some (.int .i64 t.st) := h.cell 1
  unfold Tk.ptr
  clear h
  generalize t.blk = b at *
  generalize t.st = s at *
  go_enter Try.func33, Try.ntmps33
  go_wp2
  go_ret
  exact ⟨by simp, rfl⟩

/-- the first that waits -/
def firstW (T : List Tk) : Nat → Int
  | j => if j < T.length then (if ((T[j]?).map (fun t => t.st == 1)) = some true then (j : Int) else firstW T (j + 1)) else -1
termination_by j => T.length - j
theorem firstW_ge (T : List Tk) (d : Nat) : ∀ j, T.length - j = d → (decide (0 ≤ firstW T j)) = (T.drop j).any (fun t => t.st == 1) := by
  induction d with
  | zero =>
    intro j hj
    unfold firstW
    rw [if_neg (by omega), List.drop_of_length_le (by omega)]
    rfl
  | succ d ih =>
    intro j hj
    have hlt : j < T.length := by omega
    unfold firstW
    rw [if_pos hlt, List.drop_eq_getElem_cons hlt, List.getElem?_eq_getElem hlt]
    simp only [Option.map_some, Option.some.injEq, List.any_cons]
    by_cases hb : (T[j].st == 1) = true
    · rw [if_pos hb, hb]; simp
    · rw [if_neg hb, ih (j + 1) (by omega)]
      simp only [Bool.not_eq_true] at hb
      rw [hb]; simp

theorem c_IndexFunc (base P : Nat) (v : Value) (T : List Tk) (w : World) (h : IsTurns w base P v T) :
    Calls Try.prog 34 #[v, .func (.func 33) #[] #[]] w fun e w' => e = .returned (.int .i64 (firstW T 0)) ∧ w' = w := by
  obtain ⟨a, cap, rfl, hrow⟩ := owns_rd h.row
  have hl := h.len
  have hrd : ∀ j, j < T.length → ∃ g b s, a = some ⟨g, 0, none⟩ ∧ w.cell? ⟨g, j, none⟩ = some (.pointer (some ⟨b, 0, none⟩)) ∧ firstW T j = (if (s == (1 : Int)) = true then (j : Int) else firstW T (j + 1)) ∧
      Calls Try.prog 33 #[.pointer (some ⟨b, 0, none⟩)] w fun e w' => e = .returned (.bool (s == 1)) ∧ w' = w := fun j hj => by
    obtain ⟨g, e, _, _, hc⟩ := hrow (by omega)
    have ht : T[j]? = some T[j] := List.getElem?_eq_getElem hj
    refine ⟨g, T[j].blk, T[j].st, e, hc j _ (by rw [List.getElem?_map, ht]; rfl), ?_, c_isW _ _ (h.each j _ ht)⟩
    rw [firstW, if_pos hj, ht]
    simp only [Option.map_some, Option.some.injEq]
  have HRD := Lib.hid hrd
  have hend : firstW T T.length = -1 := by rw [firstW, if_neg (by omega)]
  have HE := Lib.hid hend
  clear h hrow hrd hend
  generalize T.length = n at *
  generalize firstW T = FW at *
  obtain ⟨z, hz⟩ : ∃ z, z = FW 0 := ⟨_, rfl⟩
  rw [← hz]
  have HZ := Lib.hid hz
  clear hz
  go_enter Try.func34, Try.ntmps34
  go_wp2_with fail
  go_loop [8] (fun i => ∃ j : Nat, i = .int .i64 j ∧ j ≤ n ∧ FW j = z) (fun i => n - (intOf i).toNat)
  case atStart => exact ⟨0, rfl, by omega, HZ.out.symm⟩
  case round =>
    obtain ⟨j, rfl, hj, hfw⟩ := hrel
    by_cases hlt : j < n
    · obtain ⟨g, b, s, rfl, e1, e2, hcall⟩ := HRD.out j hlt
      rw [hfw] at e2
      have HC := Lib.hid hcall
      cases hb : s == 1 with
      | true =>
        rw [hb, if_pos rfl] at e2
        rw [hb] at HC
        have H2 := Lib.hid e2
        clear hcall e2 hb hfw
        go_wp2_with fail
        refine HC.out.mono ?_
        rintro e w' ⟨rfl, rfl⟩
        go_wp2
        go_ret
        exact ⟨by rw [H2.out]; rfl, rfl⟩
      | false =>
        rw [hb, if_neg (by simp)] at e2
        rw [hb] at HC
        have H2 := Lib.hid e2
        clear hcall e2 hb hfw
        go_wp2_with fail
        refine HC.out.mono ?_
        rintro e w' ⟨rfl, rfl⟩
        go_wp2
        go_round
        case rel => exact ⟨j + 1, by go_num, by omega, H2.out.symm⟩
        case measure => simp [intOf]; omega
    · have hjn : j = n := by omega
      subst hjn
      rw [HE.out] at hfw
      subst hfw
      go_wp2
      go_ret
      exact ⟨rfl, rfl⟩

theorem c_ContainsFunc (base P : Nat) (v : Value) (T : List Tk) (w : World) (h : IsTurns w base P v T) :
    Calls Try.prog 32 #[v, .func (.func 33) #[] #[]] w fun e w' => e = .returned (.bool (anyW T)) ∧ w' = w := by
  have hi := c_IndexFunc base P v T w h
  have he := firstW_ge T _ 0 rfl
  rw [List.drop_zero] at he
  have he2 : decide (0 ≤ firstW T 0) = anyW T := he
  rw [← he2]
  have HI := Lib.hid hi
  obtain ⟨a, cap, rfl, _⟩ := owns_rd h.row
  clear hi he he2 h
  generalize firstW T 0 = z at *
  generalize T.length = n at *
  go_enter Try.func32, Try.ntmps32
  go_wp2_with fail
  refine HI.out.mono ?_
  rintro e w' ⟨rfl, rfl⟩
  go_wp2
  go_ret
  exact ⟨rfl, rfl⟩

def stuckB (T : List Tk) : Bool := decide (rdy T = []) && anyW T
theorem c_Stuck (base P : Nat) (v : Value) (T : List Tk) (w : World) (h : IsTurns w base P v T) :
    Calls Try.prog 27 #[.pointer (some ⟨P, 0, none⟩)] w fun e w' => e = .returned (.bool (stuckB T)) ∧ Fr (fun _ => False) w w' := by
  have hq := c_Ready base P v T w h
  have HQ := Lib.hid hq
  have hcf := fun w' (f : Fr (fun _ => False) w w') => c_ContainsFunc base P v T w' (h.fr f (fun h => h) (fun _ _ h => h) (fun _ _ _ h => h))
  have HC := Lib.hid hcf
  have hs := h.str.cell 0
  unfold stuckB
  clear hq hcf h
  by_cases h0 : rdy T = []
  · rw [h0] at HQ ⊢
    rw [decide_eq_true rfl, Bool.true_and]
    go_enter Try.func27, Try.ntmps27
    go_wp2_with fail
    refine HQ.out.mono ?_
    rintro e w1 ⟨v1, rfl, hv, f1⟩
    obtain ⟨a, cap, rfl, _⟩ := owns_rd hv
    have hs1 := f1.cell hs (fun h => h)
    have HF := Lib.hid f1
    simp only [List.length_nil]
    clear hv f1
    go_wp2_with fail
    refine (HC.out _ HF.out).mono ?_
    rintro e w' ⟨rfl, rfl⟩
    go_wp2
    go_ret
    exact ⟨rfl, HF.out⟩
  · rw [decide_eq_false h0, Bool.false_and]
    have hl : 0 < (rdy T).length := List.length_pos_iff.2 h0
    go_enter Try.func27, Try.ntmps27
    go_wp2_with fail
    refine HQ.out.mono ?_
    rintro e w1 ⟨v1, rfl, hv, f1⟩
    obtain ⟨a, cap, rfl, _⟩ := owns_rd hv
    have HF := Lib.hid f1
    clear hv f1
    go_wp2
    go_ret
    exact ⟨rfl, HF.out⟩
end Go.Proofs.Ythpghoafjpbdbaa
