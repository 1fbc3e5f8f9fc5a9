/- The contracts of package cells: Put. -/
import Derived.Test.YtnknamdhobieiaaCells4
namespace Go.Proofs.Ytnknamdhobieiaa
open Go.RowKit Go.HK
set_option maxRecDepth 100000

def putOK (W : List Int) (at_ : Int) (L : List Int) : Prop := 0 ≤ at_ ∧ at_ ≤ W.length ∧ (L.length : Int) ≤ W.length - at_
instance (W : List Int) (a : Int) (L : List Int) : Decidable (putOK W a L) := by unfold putOK; infer_instance
def putE (W : List Int) (at_ : Int) (L : List Int) : Int := if putOK W at_ L then 0 else 10
def putW (W : List Int) (at_ : Int) (L : List Int) : List Int := if putOK W at_ L then W.take at_.toNat ++ (L ++ W.drop (at_.toNat + L.length)) else W
theorem putW_len (W : List Int) (at_ : Int) (L : List Int) : (putW W at_ L).length = W.length := by
  unfold putW; split
  · rename_i h; unfold putOK at h; simp; omega
  · rfl

theorem IsCells.splice {w : World} {p q : Nat} {W : List Int} {n : Int} (h : IsCells w p q W n) (at_ : Int) (L : List Int) (hok : putOK W at_ L) :
    IsCells (w.setRow q (((W.map (Value.int .i64)).take at_.toNat ++ (L.map (Value.int .i64) ++ (W.map (Value.int .i64)).drop (at_.toNat + (L.map (Value.int .i64)).length))).toArray)) p q (putW W at_ L) n := by
  have hl := putW_len W at_ L
  refine ⟨h.ne, ?_, ?_, by rw [hl]; exact h.len, h.rng⟩
  · have := h.str.of_eq (w' := w.setRow q (((W.map (Value.int .i64)).take at_.toNat ++ (L.map (Value.int .i64) ++ (W.map (Value.int .i64)).drop (at_.toNat + (L.map (Value.int .i64)).length))).toArray)) (setRow_other w q p _ h.ne)
    rw [hl]; exact this
  · have := setRow_heap w q (W.map (Value.int .i64)).toArray (((W.map (Value.int .i64)).take at_.toNat ++ (L.map (Value.int .i64) ++ (W.map (Value.int .i64)).drop (at_.toNat + (L.map (Value.int .i64)).length))).toArray) 2 (0, 0) h.row
    unfold Blk
    rw [this, putW, if_pos hok]
    simp [List.map_take, List.map_drop]

theorem fr_setRow {S : Nat → Prop} {w w' : World} (h : Fr S w w') (g : Nat) (cs : Array Value) (hg : S g ∨ w.heap.size ≤ g) : Fr S w (w'.setRow g cs) :=
  h.step (S' := fun k => k = g) ⟨rfl, rfl, rfl, by simp [World.setRow], fun k _ hn => setRow_other w' g k cs hn⟩ (by rintro i rfl; exact hg)

theorem info1_i64 : (Try.prog.info? 2).map (·.size) = some 1 := by kernel_rfl

theorem c_Put (p q : Nat) (W : List Int) (n at_ : Int) (a : Option Addr) (m c : Nat) (L : List Int) (w : World) (h : IsCells w p q W n) (hL : Reads w a m L) (hb : m ≤ 9223372036854775807) :
    Calls Try.prog 19 #[.pointer (some ⟨p, 0, none⟩), .int .i64 at_, .slice a m c] w fun e w' => e = .returned (.int .i64 (putE W at_ L)) ∧
      IsCells w' p q (putW W at_ L) n ∧ Fr (foot p q) w w' := by
  have hc0 := h.str.cell 0
  have hl : (W.length : Int) ≤ 65536 := by have := h.len; omega
  have H := Lib.hid h
  obtain ⟨hm, hr⟩ := hL
  by_cases hok : putOK W at_ L
  · have e1 : putE W at_ L = 0 := by rw [putE, if_pos hok]
    rw [e1]
    have HS := Lib.hid (h.splice at_ L hok)
    have h0 := hok.1
    have h1 := hok.2.1
    have h2 : (m : Int) ≤ W.length - at_ := by rw [hm]; exact hok.2.2
    have hrow : w.heap[q]? = some (.cells (W.map (Value.int .i64)).toArray 2 (0, 0)) := h.row
    have HR := Lib.hid hrow
    clear hrow e1
    by_cases hz : L.length = 0
    · have hw : putW W at_ L = W := by
        obtain rfl : L = [] := List.eq_nil_of_length_eq_zero hz
        rw [putW]; split <;> simp
      rw [hw]
      clear hw HS HR hok h
      have hm0 : m = 0 := by omega
      subst hm0
      clear hm hz hr
      generalize W.length = k at *
      go_enter Try.func19, Try.ntmps19
      go_wp2_with (with_reducible refine wpList_copy_nothing rfl (.tmp 39) (.tmp 40) 29 29 rfl 2 Try.underlying29 info1_i64 _ _ _ _ _ _ rfl rfl (by simp) ?_)
      all_goals
        go_ret
        exact ⟨rfl, H.out, Fr.refl _ _⟩
    · obtain ⟨ad, rfl, hcells⟩ := hr (by omega)
      have HC := Lib.hid hcells
      have HM := Lib.hid hm
      have hm1 : 0 < m := by omega
      have hlen : W.length = (W.map (Value.int .i64)).length := by simp
      have HL := Lib.hid hlen
      clear hr hcells h hm hok hlen
      generalize hk : W.length = k at *
      have HK := Lib.hid hk
      clear hk
      go_enter Try.func19, Try.ntmps19
      go_wp2_with (with_reducible refine wpList_copy_own rfl (.tmp 39) (.tmp 40) 29 29 rfl 2 Try.underlying29 info1_i64 q at_.toNat (k - at_.toNat) (k - at_.toNat) ad m c rfl rfl (W.map (Value.int .i64)).toArray 2 HR.out (L.map (Value.int .i64)) ?c1 HC.out ?c2 (ints_one L) ?_)
      case c1 => have := HM.out; simp only [List.length_map, Nat.min_def]; split <;> omega
      case c2 => have h1 := HM.out; have h2 := HK.out; simp; omega
      go_ret
      exact ⟨rfl, by simpa using HS.out, fr_setRow (Fr.refl _ _) _ _ (.inl (.inr rfl))⟩
  · have e1 : putE W at_ L = 10 := by rw [putE, if_neg hok]
    have e2 : putW W at_ L = W := by rw [putW, if_neg hok]
    rw [e1, e2]
    have ho : at_ < 0 ∨ (0 ≤ at_ ∧ (W.length : Int) < at_) ∨ (0 ≤ at_ ∧ at_ ≤ (W.length : Int) ∧ (W.length : Int) - at_ < m) := by unfold putOK at hok; omega
    clear e1 e2 hok h hr hm
    generalize W.length = k at *
    rcases ho with ho | ⟨ho, ho'⟩ | ⟨ho, ho', ho''⟩
    all_goals
      go_enter Try.func19, Try.ntmps19
      go_wp2
      go_ret
      exact ⟨rfl, H.out, Fr.refl _ _⟩
end Go.Proofs.Ytnknamdhobieiaa
