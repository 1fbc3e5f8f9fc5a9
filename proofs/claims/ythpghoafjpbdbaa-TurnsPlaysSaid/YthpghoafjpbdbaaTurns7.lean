/- Pick where the task is one of the laws' own: told, counter. -/
import Derived.Test.YthpghoafjpbdbaaTurns6
namespace Go.Proofs.Ythpghoafjpbdbaa
open Go.RowKit Go.HK
set_option maxRecDepth 100000

theorem ent_told (xs : Array Value) (w : World) : (callFunc 16 xs).run Try.prog w = .ok (.enter 16 xs) w := by
  go_simp
theorem ent_counter (xs : Array Value) (w : World) : (callFunc 19 xs).run Try.prog w = .ok (.enter 19 xs) w := by
  go_simp

def toldC (a : Option Addr) (n cp : Nat) (m : Int) : List Value := [.slice a n cp, .int .i64 m]
/-- what a step of task i that runs `f` on its own block c may change -/
def stS (t : Tk) : Nat → Prop := fun k => k = t.blk ∨ k = t.c

theorem c_PickTold (base P : Nat) (v : Value) (T : List Tk) (pick : Int) (w : World) (h : IsTurns w base P v T) (hpk : I64 pick) (i : Nat) (t : Tk) (ht : T[i]? = some t) (hf : t.f = 16) (hr : rdy T ≠ [])
    (hi : (rdy T).getD (pickI pick (rdy T).length) 0 = (i : Int) + 1) (hn : 0 ≤ t.n ∧ t.n < 1000000000)
    (a : Option Addr) (n cp : Nat) (L : List Int) (m : Nat) (hc : Blk w t.c 29 (toldC a n cp m)) (hL : RdI .i64 w a n L) (hne : 0 < n → ∀ b off, a = some ⟨b, off, none⟩ → b ≠ t.c ∧ b ≠ t.blk) (hm : (m : Int) < 1000000000) :
    Calls Try.prog 13 #[.pointer (some ⟨P, 0, none⟩), .int .i64 pick] w fun e w' => e = .returned (.tuple #[.int .i64 ((i : Int) + 1), .bool true]) ∧
      IsTurns w' base P v (T.set i (t.bump.to (tellP L m))) ∧ Blk w' t.c 29 (toldC a n cp ((m : Int) + 1)) ∧ Fr (stS t) w w' := by
  have hit : i < T.length := by
    rcases Nat.lt_or_ge i T.length with h1 | h1
    · exact h1
    · rw [List.getElem?_eq_none h1] at ht; cases ht
  refine (c_Pick base P v T pick w h hpk i t ht hr hi hn (by rw [hf]; exact ent_told)
    (fun w2 s v' T' => s = tellP L m ∧ v' = v ∧ T' = T.set i t.bump ∧ Blk w2 t.c 29 (toldC a n cp ((m : Int) + 1)) ∧ Fr (stS t) w w2) ?_).mono ?_
  · intro w1 h1 f1
    have hcb : t.c ≠ t.blk := ne_ty hc (h.each i t ht) (by decide)
    have hc1 := f1.blk hc hcb
    have hL1 : RdI .i64 w1 a n L := ⟨hL.hlen, hL.le, hL.rng, fun h0 => by
      obtain ⟨b, off, e, h1, h2⟩ := hL.at_ h0
      exact ⟨b, off, e, Nat.lt_of_lt_of_le h1 f1.size, fun i hi => f1.cell (h2 i hi) (hne h0 b off e).2⟩⟩
    rw [hf]
    refine (told_step t.c a n cp L m w1 hc1 hL1 (fun h0 b off e => (hne h0 b off e).1) hm).mono ?_
    rintro e w2 ⟨rfl, h2, f2⟩
    have h3 : IsTurns w2 base P v (T.set i t.bump) := h1.fr f2 (fun e => ne_ty hc1 h1.str (by decide) e.symm)
      (fun g hg e => by obtain ⟨cs, h4, _⟩ := own_ty h1.row hg; exact ne_ty hc1 h4 (by decide) e.symm)
      (fun j u hu e => ne_ty hc1 (h1.each j u hu) (by decide) e.symm)
    exact ⟨_, v, _, rfl, h3, by rw [List.getElem?_set_self hit], rfl, rfl, rfl, h2, (f1.mono (fun k _ hk => .inl hk)).step f2 (fun k hk => .inl (.inr hk))⟩
  · rintro e w' ⟨rfl, w2, s, v', T', ⟨rfl, rfl, rfl, h2, f2⟩, h3, f3⟩
    refine ⟨rfl, ?_, ?_, ?_⟩
    · rw [List.set_set] at h3; exact h3
    · refine f3.blk h2 (fun e => ?_)
      have hcb : t.c ≠ t.blk := ne_ty hc (h.each i t ht) (by decide)
      exact hcb e
    · exact f2.step f3 (fun k hk => .inl (.inl hk))

theorem c_PickCounter (base P : Nat) (v : Value) (T : List Tk) (pick : Int) (w : World) (h : IsTurns w base P v T) (hpk : I64 pick) (i : Nat) (t : Tk) (ht : T[i]? = some t) (hf : t.f = 19) (hr : rdy T ≠ [])
    (hi : (rdy T).getD (pickI pick (rdy T).length) 0 = (i : Int) + 1) (hn : 0 ≤ t.n ∧ t.n < 1000000000)
    (m : Int) (hc : Blk w t.c 46 [.int .i64 m]) (hm : -9000000000 ≤ m ∧ m ≤ 9000000000) :
    Calls Try.prog 13 #[.pointer (some ⟨P, 0, none⟩), .int .i64 pick] w fun e w' => e = .returned (.tuple #[.int .i64 ((i : Int) + 1), .bool true]) ∧
      IsTurns w' base P v (T.set i (t.bump.to (if m - 1 ≤ 0 then 2 else 0))) ∧ Blk w' t.c 46 [.int .i64 (m - 1)] ∧ Fr (stS t) w w' := by
  have hit : i < T.length := by
    rcases Nat.lt_or_ge i T.length with h1 | h1
    · exact h1
    · rw [List.getElem?_eq_none h1] at ht; cases ht
  refine (c_Pick base P v T pick w h hpk i t ht hr hi hn (by rw [hf]; exact ent_counter)
    (fun w2 s v' T' => s = (if m - 1 ≤ 0 then 2 else 0) ∧ v' = v ∧ T' = T.set i t.bump ∧ Blk w2 t.c 46 [.int .i64 (m - 1)] ∧ Fr (stS t) w w2) ?_).mono ?_
  · intro w1 h1 f1
    have hcb : t.c ≠ t.blk := ne_ty hc (h.each i t ht) (by decide)
    have hc1 := f1.blk hc hcb
    rw [hf]
    refine (counter_step t.c m w1 hc1 hm.1 hm.2).mono ?_
    rintro e w2 ⟨rfl, h2, f2⟩
    have h3 : IsTurns w2 base P v (T.set i t.bump) := h1.fr f2 (fun e => ne_ty hc1 h1.str (by decide) e.symm)
      (fun g hg e => by obtain ⟨cs, h4, _⟩ := own_ty h1.row hg; exact ne_ty hc1 h4 (by decide) e.symm)
      (fun j u hu e => ne_ty hc1 (h1.each j u hu) (by decide) e.symm)
    exact ⟨_, v, _, rfl, h3, by rw [List.getElem?_set_self hit], rfl, rfl, rfl, h2, (f1.mono (fun k _ hk => .inl hk)).step f2 (fun k hk => .inl (.inr hk))⟩
  · rintro e w' ⟨rfl, w2, s, v', T', ⟨rfl, rfl, rfl, h2, f2⟩, h3, f3⟩
    refine ⟨rfl, ?_, ?_, ?_⟩
    · rw [List.set_set] at h3; exact h3
    · refine f3.blk h2 (fun e => ?_)
      have hcb : t.c ≠ t.blk := ne_ty hc (h.each i t ht) (by decide)
      exact hcb e
    · exact f2.step f3 (fun k hk => .inl (.inl hk))
end Go.Proofs.Ythpghoafjpbdbaa
