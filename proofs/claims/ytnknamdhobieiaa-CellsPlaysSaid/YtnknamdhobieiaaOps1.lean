/- The script of CellsPlays, the two words of CellsApart: how they read. -/
import Derived.Test.YtnknamdhobieiaaOpen
namespace Go.Proofs.Ytnknamdhobieiaa
open Go.ChangeShapes Go.WideShapes Go.ChangeAt Go.RowKit Go.HK

structure OpV where
  kind : Int
  at_ : Int
  old : Int
  new : Int
  la : Option Addr
  ln : Nat
  lc : Nat
  L : List Int

def Qop (w : World) (l : List Value) (y : OpV) : Prop :=
  l = [.int .i64 y.kind, .int .i64 y.at_, .int .i64 y.old, .int .i64 y.new, .slice y.la y.ln y.lc] ∧ I64 y.kind ∧ I64 y.at_ ∧ I64 y.old ∧ I64 y.new ∧ RdI .i64 w y.la y.ln y.L

theorem open_op {H : Type} {enc : TypeId × Value → H} {W : World} {base : Nat} {held : Bool} {n : Nat} {l : List Value} {y : DataW H × List MemPlace}
    (h : DataW.trod enc Try.prog W base (fun _ => true) held n 33 l = some y) : ∃ z : OpV, Qop W l z := by
  obtain ⟨m, hl, hf⟩ := trod_fields Try.underlying33 h
  obtain ⟨c0, c1, c2, c3, c4, rfl⟩ := list5 (hl.trans (show Try.prog.cellsOf 33 = 5 by kernel_rfl))
  obtain ⟨y0, t0⟩ := hf 0 _ rfl (by kernel_rfl) (by simp)
  obtain ⟨y1, t1⟩ := hf 1 _ rfl (by kernel_rfl) (by simp)
  obtain ⟨y2, t2⟩ := hf 2 _ rfl (by kernel_rfl) (by simp)
  obtain ⟨y3, t3⟩ := hf 3 _ rfl (by kernel_rfl) (by simp)
  obtain ⟨y4, t4⟩ := hf 4 _ rfl (by kernel_rfl) (by simp)
  obtain ⟨k, rfl, r0⟩ := trod_i64 Try.underlying3 t0
  obtain ⟨a, rfl, r1⟩ := trod_i64 Try.underlying3 t1
  obtain ⟨o, rfl, r2⟩ := trod_i64 Try.underlying2 t2
  obtain ⟨nw, rfl, r3⟩ := trod_i64 Try.underlying2 t3
  obtain ⟨la, ln, lc, L, rfl, r4⟩ := trod_ints Try.underlying29 Try.underlying2 (by kernel_rfl) t4
  exact ⟨⟨k, a, o, nw, la, ln, lc, L⟩, rfl, r0, r1, r2, r3, r4⟩

theorem open_arr2 {H : Type} {enc : TypeId × Value → H} {W : World} {base : Nat} {held : Bool} {n : Nat} (cs : Array Value) {y : DataW H × List MemPlace}
    (h : DataW.trod enc Try.prog W base (fun _ => true) held n 56 cs.toList = some y) : ∃ x y, cs = #[.int .i64 x, .int .i64 y] ∧ I64 x ∧ I64 y := by
  obtain ⟨m, hl, hf⟩ := trod_elems Try.underlying56 (by kernel_rfl) (by kernel_rfl) h
  obtain ⟨c0, c1, e⟩ := list2 hl
  obtain rfl : cs = #[c0, c1] := by rw [← cs.toArray_toList, e]
  obtain ⟨y0, t0⟩ := hf 0 (by simp)
  obtain ⟨y1, t1⟩ := hf 1 (by simp)
  obtain ⟨x, hx, r0⟩ := trod_i64 Try.underlying2 t0
  obtain ⟨y, hy, r1⟩ := trod_i64 Try.underlying2 t1
  simp only [List.getElem_cons_zero, List.getElem_cons_succ] at hx hy
  exact ⟨x, y, by rw [hx, hy], r0, r1⟩
end Go.Proofs.Ytnknamdhobieiaa
