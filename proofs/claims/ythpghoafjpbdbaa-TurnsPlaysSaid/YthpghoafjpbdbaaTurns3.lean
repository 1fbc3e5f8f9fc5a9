/- Ready: the numbers of the tasks that go on. -/
import Derived.Test.YthpghoafjpbdbaaTurns2
namespace Go.Proofs.Ythpghoafjpbdbaa
open Go.RowKit Go.HK
set_option maxRecDepth 100000

def isGo (T : List Tk) (j : Nat) : Bool := match T[j]? with | some t => t.st == 0 | none => false
/-- those that go on among the first j -/
def rdyUp (T : List Tk) : Nat → List Int
  | 0 => []
  | j + 1 => if isGo T j then rdyUp T j ++ [(j : Int) + 1] else rdyUp T j
def rdy (T : List Tk) : List Int := rdyUp T T.length
theorem rdyUp_le (T : List Tk) (j : Nat) : (rdyUp T j).length ≤ j := by
  induction j with
  | zero => simp [rdyUp]
  | succ j ih =>
    unfold rdyUp
    split
    · rw [List.length_append]; simp; omega
    · omega

theorem info_int : (Try.prog.info? 3).map (fun i => (i.zero, i.size, i.bytes)) = some (some (.int .i64 0), 1, 8) := by kernel_rfl

def OutL (w : World) (L : List Int) (e : Ending) (w' : World) : Prop := ∃ v, e = .returned v ∧ w'.ownsRow w.heap.size 3 1 v L.length (L.map (.int .i64)) ∧ Fr (fun _ => False) w w'

set_option maxHeartbeats 1000000 in
theorem c_Ready (base P : Nat) (v : Value) (T : List Tk) (w : World) (h : IsTurns w base P v T) :
    Calls Try.prog 26 #[.pointer (some ⟨P, 0, none⟩)] w (OutL w (rdy T)) := by
  have hs := h.str.cell 0
  obtain ⟨a, cap, rfl, hrow⟩ := owns_rd h.row
  obtain ⟨i0, hi, hz0, hz1, hz2⟩ := info_parts info_int
  have hl := h.len
  have hrd : ∀ j, j < T.length → ∃ g b s, a = some ⟨g, 0, none⟩ ∧ w.cell? ⟨g, j, none⟩ = some (.pointer (some ⟨b, 0, none⟩)) ∧ w.cell? ⟨b, 1, none⟩ = some (.int .i64 s) ∧ isGo T j = (s == 0) := fun j hj => by
    obtain ⟨g, e, _, _, hc⟩ := hrow (by omega)
    have ht : T[j]? = some T[j] := List.getElem?_eq_getElem hj
    refine ⟨g, T[j].blk, T[j].st, e, hc j _ (by rw [List.getElem?_map, ht]; rfl), (h.each j _ ht).cell 1, ?_⟩
    unfold isGo; rw [ht]
  have hup := rdyUp_le T
  have HRD := Lib.hid hrd
  have hst : ∀ j, rdyUp T (j + 1) = if isGo T j then rdyUp T j ++ [(j : Int) + 1] else rdyUp T j := fun j => rfl
  have HST := Lib.hid hst
  have HUP := Lib.hid hup
  unfold rdy
  have hz : rdyUp T 0 = [] := rfl
  have HZ := Lib.hid hz
  clear h hrow hrd hst hup hz
  generalize T.length = n at *
  generalize hR : rdyUp T = R at *
  clear hR
  go_enter Try.func26, Try.ntmps26
  go_wp2_with fail
  go_loopw [3, 13] (fun v i wr => ∃ j : Nat, i = .int .i64 j ∧ j ≤ n ∧ wr.ownsRow w.heap.size 3 1 v (R j).length ((R j).map (.int .i64)) ∧ Fr (fun _ => False) w wr) (fun _ i _ => n - (intOf i).toNat)
  case atStart => exact ⟨0, rfl, by omega, by rw [HZ.out]; exact World.ownsRow_nil _ _ _ _, Fr.refl _ _⟩
  case round =>
    obtain ⟨j, rfl, hj, hown, G⟩ := hrel
    have hgs := G.size
    by_cases hlt : j < n
    · obtain ⟨g, b, s, rfl, e1, e2, hgo⟩ := HRD.out j hlt
      have e1 := G.cell e1 (fun h => h)
      have e2 := G.cell e2 (fun h => h)
      have hstep := HST.out j
      rw [hgo] at hstep
      have hlen := HUP.out j
      cases hb : s == 0 with
      | true =>
        rw [hb, if_pos rfl] at hstep
        have hse : s = 0 := by simpa using hb
        subst hse
        have HS := Lib.hid hstep
        clear hstep hgo hb
        go_wp2_with (at_builtin; refine wpList_append_own _ rfl _ _ 22 rfl w.heap.size 3 i0 (.int .i64 0) 1 8 Try.underlying22 hi hz0 hz1 hz2 rfl (by decide) _ _ _ rfl (hown.alloc _) ⟨wr.heap.size, 0, none⟩ 1 1 [.int .i64 ((j : Int) + 1)] rfl rfl ?c1 ?c2 ?c3 ?c4 ?c5 ?_)
        case c1 =>
          intro i u hu
          match i, hu with
          | 0, hu => simp at hu; subst hu; simp [Addr.add]
        case c2 => first | rfl | (intro u hu; simp at hu; subst hu; rfl)
        case c3 => unfold maxLen; omega
        case c4 => omega
        case c5 => first | omega | (simp; omega)
        intro v' w4 hown4 hgrow _
        have G4 := (G.alloc (.cells #[.int .i64 ((j : Int) + 1)] 3)).grown hgrow (fun k hk => .inr (by have := hown.lt _ hk; have := own_ty hown hk; obtain ⟨_, _, h6⟩ := this; omega))
        have HO4 := Lib.hid hown4
        clear hown4 hgrow hown
        go_wp2
        go_roundw
        case rel =>
          refine ⟨j + 1, by go_num, by omega, ?_, G4⟩
          rw [HS.out]
          simpa using HO4.out
        case measure => simp [intOf]; omega
      | false =>
        rw [hb, if_neg (by simp)] at hstep
        have HS := Lib.hid hstep
        have HO := Lib.hid hown
        clear hstep hgo hown
        go_wp2
        go_roundw
        case rel => exact ⟨j + 1, by go_num, by omega, by rw [HS.out]; exact HO.out, G⟩
        case measure => simp [intOf]; omega
    · have hjn : j = n := by omega
      subst hjn
      have HO := Lib.hid hown
      clear hown
      go_wp2
      go_ret
      exact ⟨_, rfl, HO.out, G⟩
end Go.Proofs.Ythpghoafjpbdbaa
