/- The tasks of package turns as they lie in memory; New, find, State, Steps. -/
import Derived.Test.YthpghoafjpbdbaaH2
import Derived.Test.YthpghoafjpbdbaaRows
import Derived.Test.YthpghoafjpbdbaaFrame
import Derived.Lib.Hide
namespace Go.Proofs.Ythpghoafjpbdbaa
open Go.RowKit Go.HK
set_option maxRecDepth 100000

/-- a task: its block, what a step calls (a function at a receiver), how it stands, its steps -/
structure Tk where
  blk : Nat
  f : Nat
  c : Nat
  st : Int
  n : Int
def Tk.fn (t : Tk) : Value := .func (.func t.f) #[.pointer (some ⟨t.c, 0, none⟩)] #[]
def Tk.ptr (t : Tk) : Value := .pointer (some ⟨t.blk, 0, none⟩)
def Tk.cells (t : Tk) : List Value := [t.fn, .int .i64 t.st, .int .i64 t.n]

structure IsTurns (w : World) (base P : Nat) (v : Value) (T : List Tk) : Prop where
  str : Blk w P 62 [v]
  row : w.ownsRow base 64 1 v T.length (T.map Tk.ptr)
  each : ∀ (i : Nat) (t : Tk), T[i]? = some t → Blk w t.blk 66 t.cells
  dist : ∀ (i j : Nat) (t u : Tk), T[i]? = some t → T[j]? = some u → t.blk = u.blk → i = j
  low : base ≤ P ∧ ∀ (i : Nat) (t : Tk), T[i]? = some t → base ≤ t.blk
  len : T.length ≤ 128
  rng : ∀ (i : Nat) (t : Tk), T[i]? = some t → I64 t.n ∧ I64 t.st

theorem c_New (w : World) : Calls Try.prog 10 #[] w fun e w' => e = .returned (.pointer (some ⟨w.heap.size, 0, none⟩)) ∧
    IsTurns w' w.heap.size w.heap.size (.slice none 0 0) [] ∧ Fr (fun _ => False) w w' := by
  have hb := Blk.new w 62 [.slice none 0 0]
  have HB := Lib.hid hb
  clear hb
  go_enter Try.func10, Try.ntmps10
  go_wp2
  go_ret
  exact ⟨rfl, ⟨HB.out, World.ownsRow_nil _ _ _ _, fun i t h => by simp at h, fun i j t u h => by simp at h, ⟨Nat.le_refl _, fun i t h => by simp at h⟩, by simp, fun i t h => by simp at h⟩, (Fr.refl _ w).alloc _⟩

def fndT (T : List Tk) (k : Int) : Option Tk := if 1 ≤ k then T[k.toNat - 1]? else none
def ptrT : Option Tk → Value
  | some t => t.ptr
  | none => .pointer none

theorem fndT_cases (T : List Tk) (k : Int) : (k < 1 ∧ fndT T k = none) ∨ (1 ≤ k ∧ (T.length : Int) < k ∧ fndT T k = none) ∨ (1 ≤ k ∧ k ≤ T.length ∧ ∃ t, fndT T k = some t ∧ T[k.toNat - 1]? = some t) := by
  unfold fndT
  by_cases h1 : 1 ≤ k
  · rw [if_pos h1]
    by_cases h2 : k ≤ T.length
    · have h3 : k.toNat - 1 < T.length := by omega
      exact .inr (.inr ⟨h1, h2, _, List.getElem?_eq_getElem h3, List.getElem?_eq_getElem h3⟩)
    · exact .inr (.inl ⟨h1, by omega, List.getElem?_eq_none (by omega)⟩)
  · rw [if_neg h1]; exact .inl ⟨by omega, rfl⟩

theorem c_find (base P : Nat) (v : Value) (T : List Tk) (k : Int) (w : World) (h : IsTurns w base P v T) :
    Calls Try.prog 30 #[.pointer (some ⟨P, 0, none⟩), .int .i64 k] w fun e w' => e = .returned (ptrT (fndT T k)) ∧ w' = w := by
  have hs := h.str.cell 0
  obtain ⟨a, cap, rfl, hrow⟩ := owns_rd h.row
  have hl := h.len
  rcases fndT_cases T k with ⟨h1, h2⟩ | ⟨h1, h1', h2⟩ | ⟨h1, h1', t, h2, h3⟩
  · rw [h2]
    clear h2 hrow h
    generalize T.length = n at *
    go_enter Try.func30, Try.ntmps30
    go_wp2
    go_ret
    exact ⟨rfl, rfl⟩
  · rw [h2]
    clear h2 hrow h
    generalize T.length = n at *
    go_enter Try.func30, Try.ntmps30
    go_wp2
    go_ret
    exact ⟨rfl, rfl⟩
  · rw [h2]
    obtain ⟨g, rfl, _, _, hc⟩ := hrow (by omega)
    have hx : w.cell? ⟨g, k.toNat - 1, none⟩ = some t.ptr := hc (k.toNat - 1) _ (by rw [List.getElem?_map, h3]; rfl)
    have e1 : ptrT (some t) = t.ptr := rfl
    rw [e1]
    unfold Tk.ptr at *
    clear hc h2 h3 h e1
    generalize T.length = n at *
    generalize t.blk = b at *
    go_enter Try.func30, Try.ntmps30
    go_wp2
    go_ret
    exact ⟨rfl, rfl⟩

def stT (T : List Tk) (k : Int) : Int := match fndT T k with | some t => t.st | none => -1
def nT (T : List Tk) (k : Int) : Int := match fndT T k with | some t => t.n | none => 0

theorem c_State (base P : Nat) (v : Value) (T : List Tk) (k : Int) (w : World) (h : IsTurns w base P v T) :
    Calls Try.prog 14 #[.pointer (some ⟨P, 0, none⟩), .int .i64 k] w fun e w' => e = .returned (.int .i64 (stT T k)) ∧ w' = w := by
  have hf := c_find base P v T k w h
  have HF := Lib.hid hf
  clear hf
  unfold stT
  rcases fndT_cases T k with ⟨_, h2⟩ | ⟨_, _, h2⟩ | ⟨h1, h1', t, h2, h3⟩
  · rw [h2] at HF ⊢
    go_enter Try.func14, Try.ntmps14
    go_wp2_with fail
    refine HF.out.mono ?_
    rintro e w' ⟨rfl, rfl⟩
    unfold ptrT
    go_wp2
    go_ret
    exact ⟨rfl, rfl⟩
  · rw [h2] at HF ⊢
    go_enter Try.func14, Try.ntmps14
    go_wp2_with fail
    refine HF.out.mono ?_
    rintro e w' ⟨rfl, rfl⟩
    unfold ptrT
    go_wp2
    go_ret
    exact ⟨rfl, rfl⟩
  · rw [h2] at HF ⊢
    have hc : w.cell? ⟨t.blk, 1, none⟩ = some (.int .i64 t.st) := (h.each _ _ h3).cell 1
    clear h h2 h3
    have e1 : ptrT (some t) = .pointer (some ⟨t.blk, 0, none⟩) := rfl
    rw [e1] at HF
    simp only
    generalize t.blk = b at *
    generalize t.st = s at *
    go_enter Try.func14, Try.ntmps14
    go_wp2_with fail
    refine HF.out.mono ?_
    rintro e w' ⟨rfl, rfl⟩
    go_wp2
    go_ret
    exact ⟨rfl, rfl⟩

theorem c_Steps (base P : Nat) (v : Value) (T : List Tk) (k : Int) (w : World) (h : IsTurns w base P v T) :
    Calls Try.prog 15 #[.pointer (some ⟨P, 0, none⟩), .int .i64 k] w fun e w' => e = .returned (.int .i64 (nT T k)) ∧ w' = w := by
  have hf := c_find base P v T k w h
  have HF := Lib.hid hf
  clear hf
  unfold nT
  rcases fndT_cases T k with ⟨_, h2⟩ | ⟨_, _, h2⟩ | ⟨h1, h1', t, h2, h3⟩
  · rw [h2] at HF ⊢
    go_enter Try.func15, Try.ntmps15
    go_wp2_with fail
    refine HF.out.mono ?_
    rintro e w' ⟨rfl, rfl⟩
    unfold ptrT
    go_wp2
    go_ret
    exact ⟨rfl, rfl⟩
  · rw [h2] at HF ⊢
    go_enter Try.func15, Try.ntmps15
    go_wp2_with fail
    refine HF.out.mono ?_
    rintro e w' ⟨rfl, rfl⟩
    unfold ptrT
    go_wp2
    go_ret
    exact ⟨rfl, rfl⟩
  · rw [h2] at HF ⊢
    have hc : w.cell? ⟨t.blk, 2, none⟩ = some (.int .i64 t.n) := (h.each _ _ h3).cell 2
    clear h h2 h3
    have e1 : ptrT (some t) = .pointer (some ⟨t.blk, 0, none⟩) := rfl
    rw [e1] at HF
    simp only
    generalize t.blk = b at *
    generalize t.n = s at *
    go_enter Try.func15, Try.ntmps15
    go_wp2_with fail
    refine HF.out.mono ?_
    rintro e w' ⟨rfl, rfl⟩
    go_wp2
    go_ret
    exact ⟨rfl, rfl⟩
end Go.Proofs.Ythpghoafjpbdbaa
