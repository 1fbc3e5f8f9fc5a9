/- The document's Run; Add where there is no room; same. -/
import Derived.Test.YthpghoafjpbdbaaPl3
namespace Go.Proofs.Ythpghoafjpbdbaa
open Go.RowKit Go.HK
set_option maxRecDepth 100000

variable {Z : Nat → Prop}

theorem r_AddFull {base R : Nat} {vt vs vn : Value} {T : List Tk} {LS : List (Option Addr × Nat × Nat)} {TL : List (List Int)} {N : Int} {w : World} (h : IsRf w base R vt vs vn T LS TL N) (a : Option Addr) (n cp : Nat) (hlen : 128 ≤ T.length) :
    Calls Try.prog 21 #[.pointer (some ⟨R, 0, none⟩), .slice a n cp] w fun e w' => e = .returned (.int .i64 0) ∧ w = w' := by
  have hR1 : w.cell? ⟨R, 1, none⟩ = some vs := h.str.cell 1
  obtain ⟨as_, caps, es, -⟩ := owns_rd h.st
  rw [es] at hR1
  clear h es
  generalize T.length = nl at *
  go_enter Try.func21, Try.ntmps21
  go_wp2
  go_ret
  exact ⟨rfl, rfl⟩

theorem c_AddFull (base P : Nat) (v : Value) (T : List Tk) (f c : Nat) (w : World) (h : IsTurns w base P v T) (hlen : 128 ≤ T.length) :
    Calls Try.prog 11 #[.pointer (some ⟨P, 0, none⟩), .func (.func f) #[.pointer (some ⟨c, 0, none⟩)] #[]] w fun e w' => e = .returned (.tuple #[.int .i64 0, .int .i64 14]) ∧ w = w' := by
  obtain ⟨a, cap, e, -⟩ := owns_rd h.row
  have hs : w.cell? ⟨P, 0, none⟩ = some (.slice a T.length cap) := by rw [← e]; exact h.str.cell 0
  have hq := fun w xs ys => eql_func_nil w 35 (.func f) xs ys Try.underlying35
  clear h e
  generalize T.length = nl at *
  go_enter Try.func11, Try.ntmps11
  go_wp2
  go_ret2
  exact ⟨rfl, rfl⟩

/-- are two lists of ints the same? -/
theorem c_same (a1 : Option Addr) (n1 c1 : Nat) (a2 : Option Addr) (n2 c2 : Nat) (L : List Int) (w : World) (h1 : RdI .i64 w a1 n1 L) (h2 : RdI .i64 w a2 n2 L) :
    Calls Try.prog 25 #[.slice a1 n1 c1, .slice a2 n2 c2] w fun e w' => e = .returned (.bool true) ∧ Fr (fun _ => False) w w' := by
  have e1 := h1.hlen
  have e2 := h2.hlen
  have hle := h1.le
  unfold maxLen at hle
  obtain rfl : n1 = n2 := by omega
  have H1 := Lib.hid h1
  have H2 := Lib.hid h2
  clear h1 h2 e1 e2
  go_enter Try.func25, Try.ntmps25
  go_wp2_with fail
  go_loopw [5] (fun i wr => ∃ j : Nat, i = .int .i64 j ∧ j ≤ n1 ∧ Fr (fun _ => False) w wr) (fun i _ => n1 - (intOf i).toNat)
  case atStart => exact ⟨0, rfl, by omega, Fr.refl _ _⟩
  case round =>
    obtain ⟨j, rfl, hj, G⟩ := hrel
    by_cases hlt : j < n1
    · obtain ⟨b1, o1, rfl, _, k1⟩ := H1.out.at_ (by omega)
      obtain ⟨b2, o2, rfl, _, k2⟩ := H2.out.at_ (by omega)
      have ha := G.cell (k1 j hlt) (fun h => h)
      have hb := G.cell (k2 j hlt) (fun h => h)
      have hlt' : (j : Int) < (n1 : Int) := by omega
      clear k1 k2
      generalize L.getD j 0 = x at *
      go_wp2_with (go_quiet (fail))
      go_roundw
      case rel => exact ⟨j + 1, by go_num, by omega, ⟨G.os, G.tape, G.output, G.size, G.block⟩⟩
      case measure => simp [intOf]; omega
    · go_wp2
      go_ret
      exact ⟨rfl, G⟩

set_option maxHeartbeats 1000000 in
theorem r_Run {base R : Nat} {vt vs vn : Value} {T : List Tk} {LS : List (Option Addr × Nat × Nat)} {TL : List (List Int)} {N : Int} {w : World} (h : IsRf w base R vt vs vn T LS TL N) (fuel : Int) (a : Option Addr) (n cp : Nat) (L : List Int)
    (hL : RdI .i64 w a n L) (hne : ∀ b off, 0 < n → a = some ⟨b, off, none⟩ → b < base) (hf : -1000000 ≤ fuel ∧ fuel ≤ 1000000) (hN : N + fuel + 1 < 800000000) (hN0 : N + 1 < 800000000) :
    Calls Try.prog 22 #[.pointer (some ⟨R, 0, none⟩), .int .i64 fuel, .slice a n cp] w fun e w' => e = .returned (.int .i64 ((runT (TL.map tellP) L fuel.toNat 0 T).1)) ∧
      IsRf w' base R vt vs vn ((runT (TL.map tellP) L fuel.toNat 0 T).2) LS TL (N + fuel.toNat + 1) ∧ Fr (rfS R vt vs vn) w w' := by
  have hll := hL.hlen
  have hn := hL.le
  have hrg := hL.rng rfl
  unfold maxLen at hn
  obtain ⟨RN, hRN⟩ : ∃ x, x = runT (TL.map tellP) L fuel.toNat 0 T := ⟨_, rfl⟩
  rw [← hRN]
  have hbl : ∀ b, b < base → ¬ rfS R vt vs vn b := fun b hb hk => by have := h.base_le hk; omega
  have HRN := Lib.hid hRN
  have HLL := Lib.hid hll
  have H := Lib.hid h
  have HL := Lib.hid hL
  have HRG := Lib.hid hrg
  have HNE := Lib.hid hne
  have HBL := Lib.hid hbl
  clear hRN hll h hL hrg hne hbl
  obtain ⟨BS, hBS⟩ : ∃ BS, BS = TL.map tellP := ⟨_, rfl⟩
  rw [← hBS] at HRN
  have HBS := Lib.hid hBS
  clear hBS
  go_enter Try.func22, Try.ntmps22
  go_wp2_with fail
  go_loopw [7] (fun i wr => ∃ (j : Nat) (T' : List Tk), i = .int .i64 j ∧ (j : Int) ≤ 1000000 ∧ (j = 0 ∨ (j : Int) ≤ fuel) ∧ runT BS L (fuel.toNat - j) j T' = RN ∧ IsRf wr base R vt vs vn T' LS TL (N + j) ∧ Fr (rfS R vt vs vn) w wr) (fun i _ => (fuel - intOf i).toNat)
  case atStart => exact ⟨0, T, rfl, by omega, .inl rfl, HRN.out.symm, H.out.mono (by omega), Fr.refl _ _⟩
  case round =>
    obtain ⟨j, T', rfl, hj, hj0, hR, hT, G⟩ := hrel
    by_cases hlt : (j : Int) < fuel
    · have hfj : fuel.toNat - j = (fuel.toNat - (j + 1)) + 1 := by omega
      rw [hfj, runT] at hR
      have hpk : I64 (pickOf L j) := by
        unfold pickOf
        split
        · rename_i h1
          rw [List.getD_eq_getElem?_getD, List.getElem?_eq_getElem h1]
          exact HRG.out _ (List.getElem_mem h1)
        · unfold I64; have := HLL.out; omega
      have hpick := r_Pick hT (pickOf L j) hpk (by omega)
      rw [pickR_snd, ← HBS.out] at hpick
      generalize (pickR T' (pickOf L j)).1 = kk at hpick
      have hcl : ∀ p, p = pickOf L j → Hid (Calls Try.prog 23 #[.pointer (some ⟨R, 0, none⟩), .int .i64 p] wr fun e w' => e = .returned (.tuple #[.int .i64 kk, .bool (!decide (rdy T' = []))]) ∧
        IsRf w' base R vt vs vn (pickT BS T' (pickOf L j)) LS TL (N + j + 1) ∧ Fr (rfS R vt vs vn) wr w') := by rintro p rfl; exact Lib.hid hpick
      clear hpick
      have hlast : ∀ w', IsRf w' base R vt vs vn (pickT BS T' (pickOf L j)) LS TL (N + j + 1) → Fr (rfS R vt vs vn) wr w' → rdy T' = [] → (j : Int) = RN.1 ∧ IsRf w' base R vt vs vn RN.2 LS TL (N + fuel.toNat + 1) ∧ Fr (rfS R vt vs vn) w w' := fun w' h1 h2 h3 => by
        rw [if_pos h3] at hR
        rw [pickT_nil _ _ _ h3] at h1
        rw [← hR]
        exact ⟨rfl, h1.mono (by omega), G.trans h2⟩
      have HLT := Lib.hid hlast
      have hnext : ∀ w', IsRf w' base R vt vs vn (pickT BS T' (pickOf L j)) LS TL (N + j + 1) → Fr (rfS R vt vs vn) wr w' → rdy T' ≠ [] → runT BS L (fuel.toNat - (j + 1)) (j + 1) (pickT BS T' (pickOf L j)) = RN ∧ IsRf w' base R vt vs vn (pickT BS T' (pickOf L j)) LS TL (N + (j + 1 : Nat)) ∧ Fr (rfS R vt vs vn) w w' := fun w' h1 h2 h3 => by
        rw [if_neg h3] at hR
        exact ⟨hR, h1.mono (by omega), G.trans h2⟩
      have HNX := Lib.hid hnext
      have hcell : j < n → ∃ b off, a = some ⟨b, off, none⟩ ∧ wr.cell? ⟨b, off + j, none⟩ = some (.int .i64 (pickOf L j)) := fun h1 => by
        obtain ⟨b, off, e, _, h3⟩ := HL.out.at_ (by omega)
        refine ⟨b, off, e, ?_⟩
        have h4 := G.cell (h3 j h1) (HBL.out b (HNE.out b off (by omega) e))
        rw [h4]
        unfold pickOf
        rw [if_pos (by have := HLL.out; omega)]
      have hpo : ¬ j < n → (j : Int) - n = pickOf L j := fun h1 => by
        unfold pickOf
        have := HLL.out
        rw [if_neg (by omega), this]
      have hd : decide (rdy T' = []) = true ∧ rdy T' = [] ∨ decide (rdy T' = []) = false ∧ rdy T' ≠ [] := by
        by_cases h1 : rdy T' = []
        · exact .inl ⟨decide_eq_true h1, h1⟩
        · exact .inr ⟨decide_eq_false h1, h1⟩
      have HD := Lib.hid hd
      clear hd hnext hlast hR hT
      generalize decide (rdy T' = []) = bb at *
      by_cases h1 : j < n
      · obtain ⟨b, off, rfl, hcl2⟩ := hcell h1
        have HC := hcl _ rfl
        clear hpo hcell hcl
        generalize pickOf L j = p at *
        rcases HD.out with ⟨rfl, h5⟩ | ⟨rfl, h5⟩
        · go_wp2_with fail
          refine HC.out.mono ?_
          rintro e w' ⟨rfl, h6, h7⟩
          have h8 := HLT.out w' h6 h7 h5
          have H8 := Lib.hid h8
          clear h6 h7 h8
          go_wp2
          go_ret
          exact ⟨by rw [← H8.out.1]; rfl, H8.out.2⟩
        · go_wp2_with fail
          refine HC.out.mono ?_
          rintro e w' ⟨rfl, h6, h7⟩
          have h8 := HNX.out w' h6 h7 h5
          have H8 := Lib.hid h8
          clear h6 h7 h8
          go_wp2
          go_roundw
          case rel => exact ⟨j + 1, _, by go_num, by omega, .inr (by omega), H8.out.1, H8.out.2.1, H8.out.2.2⟩
          case measure => simp [intOf]; omega
      · have HC := hcl _ (hpo h1)
        clear hpo hcell hcl
        generalize pickOf L j = p at *
        rcases HD.out with ⟨rfl, h5⟩ | ⟨rfl, h5⟩
        · go_wp2_with fail
          refine HC.out.mono ?_
          rintro e w' ⟨rfl, h6, h7⟩
          have h8 := HLT.out w' h6 h7 h5
          have H8 := Lib.hid h8
          clear h6 h7 h8
          go_wp2
          go_ret
          exact ⟨by rw [← H8.out.1]; rfl, H8.out.2⟩
        · go_wp2_with fail
          refine HC.out.mono ?_
          rintro e w' ⟨rfl, h6, h7⟩
          have h8 := HNX.out w' h6 h7 h5
          have H8 := Lib.hid h8
          clear h6 h7 h8
          go_wp2
          go_roundw
          case rel => exact ⟨j + 1, _, by go_num, by omega, .inr (by omega), H8.out.1, H8.out.2.1, H8.out.2.2⟩
          case measure => simp [intOf]; omega
    · have hR2 : runT BS L 0 j T' = RN := by rw [← hR]; congr 1; omega
      have H2 : (j : Int) = RN.1 ∧ T' = RN.2 := by rw [← hR2]; exact ⟨rfl, rfl⟩
      have hT2 := hT.mono (N' := N + fuel.toNat + 1) (by omega)
      rw [H2.2] at hT2
      have HT := Lib.hid hT2
      have HE := Lib.hid H2.1
      clear hT hT2 hR hR2 H2
      by_cases hneg : fuel < 0
      · have hj00 : j = 0 := by omega
        subst hj00
        go_wp2
        go_ret
        exact ⟨by rw [← HE.out]; rfl, by have := HT.out; rwa [Int.ofNat_toNat] at this, G⟩
      · have hjf : (j : Int) = fuel := by omega
        have hje : fuel = RN.1 := by rw [← hjf]; exact HE.out
        have HJE := Lib.hid hje
        clear hje
        go_wp2
        go_ret
        exact ⟨by rw [← HJE.out]; rfl, by have := HT.out; rwa [Int.ofNat_toNat] at this, G⟩
end Go.Proofs.Ythpghoafjpbdbaa
