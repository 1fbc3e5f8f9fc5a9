/- The laws' own tasks: told (tells a list), counter (goes on so many steps). -/
import Derived.Test.YthpghoafjpbdbaaTurns3
import Derived.Deep.RegionHeld3
namespace Go.Proofs.Ythpghoafjpbdbaa
open Go.RowKit Go.HK
set_option maxRecDepth 100000

def tellP (L : List Int) (m : Nat) : Int := if (L.length : Int) ≤ m ∨ L.getD m 0 < 0 ∨ 2 < L.getD m 0 then 2 else L.getD m 0
theorem tellP_rng (L : List Int) (m : Nat) : 0 ≤ tellP L m ∧ tellP L m ≤ 2 := by unfold tellP; split <;> omega

theorem c_Tell (a : Option Addr) (n cp : Nat) (L : List Int) (m : Nat) (w : World) (h : RdI .i64 w a n L) (hm : (m : Int) ≤ 9223372036854775807) :
    Calls Try.prog 31 #[.slice a n cp, .int .i64 m] w fun e w' => e = .returned (.int .i64 (tellP L m)) ∧ w = w' := by
  have hl := h.hlen
  have hn := h.le
  unfold maxLen at hn
  unfold tellP
  rw [hl]
  by_cases h1 : n ≤ m
  · rw [if_pos (.inl (by omega))]
    clear h hl
    go_enter Try.func31, Try.ntmps31
    go_wp2
    go_ret
    exact ⟨rfl, rfl⟩
  · obtain ⟨b, off, rfl, _, hc⟩ := h.at_ (by omega)
    have hx := hc m (by omega)
    clear hc h hl
    generalize L.getD m 0 = x at *
    have h5 : x < 0 ∨ (0 ≤ x ∧ 2 < x) ∨ (0 ≤ x ∧ x ≤ 2) := by omega
    rcases h5 with h5 | ⟨h5, h6⟩ | ⟨h5, h6⟩
    · rw [if_pos (.inr (.inl h5))]
      go_enter Try.func31, Try.ntmps31
      go_wp2
      go_ret
      exact ⟨rfl, rfl⟩
    · rw [if_pos (.inr (.inr h6))]
      go_enter Try.func31, Try.ntmps31
      go_wp2
      go_ret
      exact ⟨rfl, rfl⟩
    · rw [if_neg (by omega)]
      go_enter Try.func31, Try.ntmps31
      go_wp2
      go_ret
      exact ⟨rfl, rfl⟩

theorem told_step (c : Nat) (a : Option Addr) (n cp : Nat) (L : List Int) (m : Nat) (w : World) (h : Blk w c 29 [.slice a n cp, .int .i64 m]) (hL : RdI .i64 w a n L) (hne : 0 < n → ∀ b off, a = some ⟨b, off, none⟩ → b ≠ c) (hm : (m : Int) < 1000000000) :
    Calls Try.prog 16 #[.pointer (some ⟨c, 0, none⟩)] w fun e w' => e = .returned (.int .i64 (tellP L m)) ∧ Blk w' c 29 [.slice a n cp, .int .i64 ((m : Int) + 1)] ∧ Fr (fun k => k = c) w w' := by
  have hc0 := h.cell 0
  have hc1 := h.cell 1
  have hz := h.frz 1
  have hb := h.set 1 (.int .i64 ((m : Int) + 1))
  have hF := (Fr.refl (fun k => k = c) w).set (a := ⟨c, 1, none⟩) (.inl rfl) (.int .i64 ((m : Int) + 1))
  have hd0 := hb.drew.cell 0
  have hd1 := hb.drew.cell 1
  have hL2 : RdI .i64 (w.setCell ⟨c, 1, none⟩ (.int .i64 ((m : Int) + 1))).drew a n L := ⟨hL.hlen, hL.le, hL.rng, fun h0 => by
    obtain ⟨b, off, e, h1, h2⟩ := hL.at_ h0
    exact ⟨b, off, e, Nat.lt_of_lt_of_le h1 hF.size, fun i hi => hF.cell (h2 i hi) (hne h0 b off e)⟩⟩
  have hT := c_Tell a n cp L m _ hL2 (by omega)
  have hw : IntKind.i64.wrap (m : Int) = m := (IntWalk.i64_left _).trans (by unfold wrap64; omega)
  have HT := Lib.hid hT
  have HB := Lib.hid hb.drew
  have HF := Lib.hid hF.drew
  clear hT hb hF hL2 hL h
  go_enter Try.func16, Try.ntmps16
  go_wp2_with fail
  go_region_held3 (fun w' => w'.cell? ⟨c, 0, none⟩ = some (.slice a n cp) ∧ w'.cell? ⟨c, 1, none⟩ = some (.int .i64 ((m : Int) + 1)))
    (first | assumption | exact ⟨hd0, hd1⟩)
    (first | (go_at_call 31; refine HT.out.mono ?_; rintro e w' ⟨rfl, rfl⟩))
  go_wp2
  go_ret
  exact ⟨rfl, HB.out, HF.out⟩

theorem counter_step (c : Nat) (m : Int) (w : World) (h : Blk w c 46 [.int .i64 m]) (h1 : -9000000000 ≤ m) (h2 : m ≤ 9000000000) :
    Calls Try.prog 19 #[.pointer (some ⟨c, 0, none⟩)] w fun e w' => e = .returned (.int .i64 (if m - 1 ≤ 0 then 2 else 0)) ∧ Blk w' c 46 [.int .i64 (m - 1)] ∧ Fr (fun k => k = c) w w' := by
  have hc0 := h.cell 0
  have hz := h.frz 0
  have hb := h.set 0 (.int .i64 (m - 1))
  have hF := (Fr.refl (fun k => k = c) w).set (a := ⟨c, 0, none⟩) (.inl rfl) (.int .i64 (m - 1))
  have HB := Lib.hid hb
  have HF := Lib.hid hF
  clear hb hF h
  by_cases h3 : m - 1 ≤ 0
  · rw [if_pos h3]
    go_enter Try.func19, Try.ntmps19
    go_wp2
    go_ret
    exact ⟨rfl, HB.out, HF.out⟩
  · rw [if_neg h3]
    go_enter Try.func19, Try.ntmps19
    go_wp2
    go_ret
    exact ⟨rfl, HB.out, HF.out⟩
end Go.Proofs.Ythpghoafjpbdbaa
