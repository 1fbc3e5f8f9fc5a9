/- The script of TurnsPlays; both Turns side by side. -/
import Derived.Test.YthpghoafjpbdbaaPl4
import Derived.Test.YthpghoafjpbdbaaOpen
import Derived.Deep.DeepCutAuto
import Derived.Deep.CutBlock
namespace Go.Proofs.Ythpghoafjpbdbaa
open Go.ChangeShapes Go.WideShapes Go.ChangeAt Go.RowKit Go.HK
set_option maxRecDepth 100000

structure OpT where
  kind : Int
  n : Int
  la : Option Addr
  ln : Nat
  lc : Nat
  L : List Int
def Qot (w : World) (l : List Value) (y : OpT) : Prop := l = [.int .i64 y.kind, .int .i64 y.n, .slice y.la y.ln y.lc] ∧ I64 y.kind ∧ I64 y.n ∧ RdI .i64 w y.la y.ln y.L ∧ y.ln ≤ y.lc ∧ y.lc ≤ maxLen

theorem trod_ints_cap {H : Type} {enc : TypeId × Value → H} {P : Program} {w : World} {base : Nat} {held : Bool} {t : TypeId} {fuel : Nat} {x : DataW H × List MemPlace} {e : TypeId} {c : Value} (ht : P.underlying t = some (.slice e)) (he : P.underlying e = some (.int .i64)) (h1 : P.cellsOf e = 1) (h : DataW.trod enc P w base (fun _ => true) held fuel t [c] = some x) :
    ∃ a n cp L, c = .slice a n cp ∧ RdI .i64 w a n L ∧ n ≤ cp ∧ cp ≤ maxLen := by
  rcases open_ints ht he h1 h with ⟨hcs, _⟩ | ⟨x, l, c', zs, hcs, _, hl, hm, hz, _, hcell, hwz⟩
  · simp only [List.cons.injEq, and_true] at hcs
    exact ⟨none, 0, 0, [], hcs, rdI_nil _ _, Nat.le_refl _, by unfold maxLen; omega⟩
  · simp only [List.cons.injEq, and_true] at hcs
    exact ⟨_, _, _, _, hcs, rdI_row hl hm (by simpa using hz) hcell hwz, hl, hm⟩
theorem open_op {H : Type} {enc : TypeId × Value → H} {W : World} {base : Nat} {held : Bool} {n : Nat} {l : List Value} {y : DataW H × List MemPlace}
    (h : DataW.trod enc Try.prog W base (fun _ => true) held n 54 l = some y) : ∃ z : OpT, Qot W l z := by
  obtain ⟨m, hl, hf⟩ := trod_fields Try.underlying54 h
  obtain ⟨c0, c1, c2, rfl⟩ := list3 (hl.trans (show Try.prog.cellsOf 54 = 3 by kernel_rfl))
  obtain ⟨y0, t0⟩ := hf 0 _ rfl (by kernel_rfl) (by simp)
  obtain ⟨y1, t1⟩ := hf 1 _ rfl (by kernel_rfl) (by simp)
  obtain ⟨y2, t2⟩ := hf 2 _ rfl (by kernel_rfl) (by simp)
  obtain ⟨k, rfl, r0⟩ := trod_i64 Try.underlying3 t0
  obtain ⟨a, rfl, r1⟩ := trod_i64 Try.underlying3 t1
  obtain ⟨la, ln, lc, L, rfl, r4, r5, r6⟩ := trod_ints_cap Try.underlying22 Try.underlying3 (by kernel_rfl) t2
  exact ⟨⟨k, a, la, ln, lc, L⟩, rfl, r0, r1, r4, r5, r6⟩

/-- the first 40 -/
theorem RdI.cut {k : IntKind} {w : World} {a : Option Addr} {n : Nat} {L : List Int} (h : RdI k w a n L) (m : Nat) (hm : m ≤ n) : RdI k w a m (L.take m) :=
  ⟨by rw [List.length_take, h.hlen]; omega, by have := h.le; omega, fun e z hz => h.rng e z (List.mem_of_mem_take hz), fun h0 => by
    obtain ⟨b, off, e, h1, h2⟩ := h.at_ (by omega)
    refine ⟨b, off, e, h1, fun i hi => ?_⟩
    rw [h2 i (by omega), getD_take _ _ _ hi]⟩

section
variable {Z S : Nat → Prop} {w w' : World} {base P R : Nat} {v vt vs vn : Value} {T T2 : List Tk} {BS : List (Nat → Int)} {N N2 : Int} {LS : List (Option Addr × Nat × Nat)} {TL : List (List Int)}
/-- the two lie apart -/
theorem apart (ht : TW Z w base P v T BS N) (hr : IsRf w base R vt vs vn T2 LS TL N2) {k : Nat} (hk : rfS R vt vs vn k) : ¬ tsS T k ∧ ¬ addS P v k := by
  have hty : ∃ ty cs, Blk w k ty cs ∧ ty ≠ 66 ∧ ty ≠ 62 ∧ ty ≠ 64 ∧ ty ≠ 29 ∧ ty ≠ 46 := by
    rcases hk with rfl | hk | hk | hk
    · exact ⟨_, _, hr.str, by decide, by decide, by decide, by decide, by decide⟩
    · obtain ⟨cs, h1, _⟩ := own_ty hr.tl hk
      exact ⟨_, cs.toList, by unfold Blk; simpa using h1, by decide, by decide, by decide, by decide, by decide⟩
    · obtain ⟨cs, h1, _⟩ := own_ty hr.st hk
      exact ⟨_, cs.toList, by unfold Blk; simpa using h1, by decide, by decide, by decide, by decide, by decide⟩
    · obtain ⟨cs, h1, _⟩ := own_ty hr.sn hk
      exact ⟨_, cs.toList, by unfold Blk; simpa using h1, by decide, by decide, by decide, by decide, by decide⟩
  obtain ⟨ty, cs, h1, n1, n2, n3, n4, n5⟩ := hty
  refine ⟨?_, ?_⟩
  · rintro ⟨i, t, hti, e | e⟩
    · exact ne_ty h1 (ht.tu.each i t hti) n1 e
    · obtain ⟨B, _, hj⟩ := ht.get hti
      rcases hj with ⟨_, a, n, cp, L, h2, _⟩ | ⟨_, c0, _, _, h2, _⟩
      · exact ne_ty h1 h2 n4 e
      · exact ne_ty h1 h2 n5 e
  · rintro (e | e)
    · exact ne_ty h1 ht.tu.str n2 e
    · obtain ⟨_, h2, _⟩ := own_ty ht.tu.row e
      exact ne_ty h1 h2 n3 rfl
theorem rf_keep (ht : TW Z w base P v T BS N) (hr : IsRf w base R vt vs vn T2 LS TL N2) (F : Fr S w w') (hS : ∀ k, S k → tsS T k ∨ addS P v k) : IsRf w' base R vt vs vn T2 LS TL N2 :=
  hr.fr F (fun k hk hs => by
    rcases hS k hs with h1 | h1
    · exact (apart ht hr hk).1 h1
    · exact (apart ht hr hk).2 h1) (fun b hb hs => by have := ht.base_le (hS b hs); omega)
theorem tw_keep (ht : TW (fun _ => False) w base P v T BS N) (hr : IsRf w base R vt vs vn T2 LS TL N2) (F : Fr (rfS R vt vs vn) w w') : TW (fun _ => False) w' base P v T BS N :=
  ht.fr F (fun hk => (apart ht hr hk).2 (.inl rfl)) (fun g hg hk => (apart ht hr hk).2 (.inr hg)) (fun k h1 hk => (apart ht hr hk).1 h1) (fun b hb hk => by
    rcases hb with hb | ⟨h, _⟩
    · have := hr.base_le hk; omega
    · exact h)
end

/-- both -/
structure Both (w : World) (P R : Nat) (v vt vs vn : Value) (T : List Tk) (LS : List (Option Addr × Nat × Nat)) (TL : List (List Int)) (N : Int) : Prop where
  tw : TW (fun _ => False) w P P v T (TL.map tellP) N
  rf : IsRf w P R vt vs vn T LS TL N
theorem Both.mono {w : World} {P R : Nat} {v vt vs vn : Value} {T : List Tk} {LS : List (Option Addr × Nat × Nat)} {TL : List (List Int)} {N N' : Int} (h : Both w P R v vt vs vn T LS TL N) (hN : N ≤ N') : Both w P R v vt vs vn T LS TL N' := ⟨h.tw.mono hN, h.rf.mono hN⟩
theorem Both.fr0 {w w' : World} {P R : Nat} {v vt vs vn : Value} {T : List Tk} {LS : List (Option Addr × Nat × Nat)} {TL : List (List Int)} {N : Int} (h : Both w P R v vt vs vn T LS TL N) (F : Fr (fun _ => False) w w') : Both w' P R v vt vs vn T LS TL N := ⟨h.tw.fr0 F, h.rf.fr0 F⟩
end Go.Proofs.Ythpghoafjpbdbaa
