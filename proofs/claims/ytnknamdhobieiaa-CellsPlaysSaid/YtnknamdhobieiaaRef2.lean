/- The contracts of ballastref01: New, Put, Words; and of 'same'. -/
import Derived.Test.YtnknamdhobieiaaRef1
import Derived.BigQuiet
import Derived.Deep.QuietTactic
namespace Go.Proofs.Ytnknamdhobieiaa
open Go.RowKit Go.HK
set_option maxRecDepth 100000

theorem r_New (n : Int) (w : World) : Calls Try.prog 11 #[.int .i64 n] w fun e w' => e = .returned (.pointer (some ⟨w.heap.size + 1, 0, none⟩)) ∧
    IsRef w' (w.heap.size + 1) w.heap.size (List.replicate (clampN n) 0) 0 ∧ Fr (fun _ => False) w w' := by
  have hmk := fun N m => run_make_row (P := Try.prog) 29 2 (.int .i64 0) 8 Try.underlying29 info_i64 rfl N m
  obtain ⟨m, hm⟩ : ∃ m, m = clampN n := ⟨_, rfl⟩
  rw [← hm]
  have hend : ∀ w1 : World, w1 = (w.alloc (.cells (List.replicate m (Value.int .i64 0)).toArray 2)).alloc (.cells #[.slice (some ⟨w.heap.size, 0, none⟩) m m, .int .i64 0] 31) →
      IsRef w1 (w.heap.size + 1) w.heap.size (List.replicate m 0) 0 ∧ Fr (fun _ => False) w w1 := by
    rintro w1 rfl
    refine ⟨⟨by omega, ?_, ?_, ?_⟩, ((Fr.refl _ w).alloc _).alloc _⟩
    · have := Blk.new_at (m := w.heap.size + 1) (w.alloc (.cells (List.replicate m (Value.int .i64 0)).toArray 2)) 31 [.slice (some ⟨w.heap.size, 0, none⟩) m m, .int .i64 0] (by simp)
      simpa using this
    · have := (Blk.new w 2 (List.replicate m (Value.int .i64 0))).alloc (.cells #[.slice (some ⟨w.heap.size, 0, none⟩) m m, .int .i64 0] 31)
      simpa using this
    · have := clampN_le n; simp; omega
  have HE := Lib.hid hend
  clear hend
  have h3 : n < 0 ∨ (0 ≤ n ∧ 65536 < n) ∨ (0 ≤ n ∧ n ≤ 65536) := by omega
  rcases h3 with h1 | ⟨h1, h2⟩ | ⟨h1, h2⟩
  · have hk := hmk 0 m (by rw [hm]; unfold clampN; omega) (by rw [hm]; unfold clampN; omega) (by rw [hm]; unfold clampN maxLen; omega)
    generalize (List.replicate m (Value.int IntKind.i64 0)).toArray = A at *
    clear hm hmk
    go_enter Try.func11, Try.ntmps11
    go_wp2
    go_ret
    exact ⟨rfl, HE.out _ rfl⟩
  · have hk := hmk 65536 m (by rw [hm]; unfold clampN; omega) (by rw [hm]; unfold clampN; omega) (by rw [hm]; unfold clampN maxLen; omega)
    generalize (List.replicate m (Value.int IntKind.i64 0)).toArray = A at *
    clear hm hmk
    go_enter Try.func11, Try.ntmps11
    go_wp2
    go_ret
    exact ⟨rfl, HE.out _ rfl⟩
  · have hk := hmk n m (by rw [hm]; unfold clampN; omega) (by rw [hm]; unfold clampN; omega) (by rw [hm]; unfold clampN maxLen; omega)
    generalize (List.replicate m (Value.int IntKind.i64 0)).toArray = A at *
    clear hm hmk
    go_enter Try.func11, Try.ntmps11
    go_wp2
    go_ret
    exact ⟨rfl, HE.out _ rfl⟩

/-! ### same -/
structure RdC (w : World) (a : Option Addr) (n : Nat) (L : List Int) : Prop where
  hlen : L.length = n
  at_ : 0 < n → ∃ b off, a = some ⟨b, off, none⟩ ∧ b < w.heap.size ∧ ∀ i, i < n → w.cell? ⟨b, off + i, none⟩ = some (.int .i64 (L.getD i 0))

theorem owns_rdC {w : World} {base : Nat} {v : Value} {n : Nat} {L : List Int} (h : w.ownsRow base 2 1 v n (L.map (.int .i64))) : ∃ a cap, v = .slice a n cap ∧ RdC w a n L ∧ (0 < n → ∃ g, a = some ⟨g, 0, none⟩ ∧ base ≤ g) := by
  have hl : L.length = n := by have := h.1; simpa using this
  obtain ⟨a, cap, hv, hr⟩ := owns_rd h
  refine ⟨a, cap, hv, ⟨hl, fun h0 => ?_⟩, fun h0 => ?_⟩
  · obtain ⟨g, ha, hb, hlt, hc⟩ := hr h0
    refine ⟨g, 0, ha, hlt, fun i hi => ?_⟩
    have := hc i (.int .i64 (L.getD i 0)) (by simp [List.getElem?_eq_getElem (show i < L.length by omega)])
    rw [Nat.zero_add]; exact this
  · obtain ⟨g, ha, hb, _⟩ := hr h0
    exact ⟨g, ha, hb⟩

theorem RdC.fr {S : Nat → Prop} {w w' : World} {a : Option Addr} {n : Nat} {L : List Int} (h : RdC w a n L) (k : Fr S w w') (hn : ∀ b off, a = some ⟨b, off, none⟩ → ¬ S b) : RdC w' a n L :=
  ⟨h.hlen, fun h0 => by
    obtain ⟨b, off, e, hlt, hc⟩ := h.at_ h0
    exact ⟨b, off, e, Nat.lt_of_lt_of_le hlt k.size, fun i hi => (World.cell?_of_block (w := w) (a := ⟨b, off + i, none⟩) (k.block b hlt (hn b off e))).trans (hc i hi)⟩⟩

theorem same_true (a1 a2 : Option Addr) (n c1 c2 : Nat) (L : List Int) (w : World) (h1 : RdC w a1 n L) (h2 : RdC w a2 n L) (hb : n ≤ 9223372036854775807) :
    Calls Try.prog 22 #[.slice a1 n c1, .slice a2 n c2] w fun e w' => e = .returned (.bool true) ∧ Fr (fun _ => False) w w' := by
  go_enter Try.func22, Try.ntmps22
  go_wp2
  go_loopw [5] (fun i wr => ∃ k : Nat, i = .int .i64 k ∧ k ≤ n ∧ Fr (fun _ => False) w wr) (fun i _ => n - (intOf i).toNat)
  case atStart => exact ⟨0, rfl, by omega, Fr.refl _ _⟩
  case round =>
    obtain ⟨k, rfl, hk, G⟩ := hrel
    by_cases hlt : k < n
    · obtain ⟨b1, o1, rfl, _, hc1⟩ := (h1.fr G (fun _ _ _ h => h)).at_ (by omega)
      obtain ⟨b2, o2, rfl, _, hc2⟩ := (h2.fr G (fun _ _ _ h => h)).at_ (by omega)
      have hx1 := hc1 k hlt
      have hx2 := hc2 k hlt
      clear hc1 hc2
      generalize L.getD k 0 = u at *
      have hu : (u != u) = false := by simp
      go_wp2
      go_region
      go_wp2
      go_roundw
      case rel => exact ⟨k + 1, by go_num, by omega, G.drew⟩
      case measure => simp [intOf]; omega
    · go_wp2
      go_ret
      exact ⟨rfl, G⟩
end Go.Proofs.Ytnknamdhobieiaa
