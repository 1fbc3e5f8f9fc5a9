/- Wake: those that wait go on. -/
import Derived.Test.YthpghoafjpbdbaaTurns5
namespace Go.Proofs.Ythpghoafjpbdbaa
open Go.RowKit Go.HK
set_option maxRecDepth 100000

def waits (T : List Tk) (k : Int) : Bool := match fndT T k with | some t => t.st == 1 | none => false
def Tk.go (t : Tk) : Tk := { t with st := 0 }
def wakeOne (T : List Tk) (k : Int) : List Tk := match fndT T k with | some t => if t.st == 1 then T.set (k.toNat - 1) t.go else T | none => T
def wakeAll (T : List Tk) : List Int → List Tk
  | [] => T
  | k :: l => wakeAll (wakeOne T k) l
def wakeN (T : List Tk) : List Int → Int
  | [] => 0
  | k :: l => (if waits T k then 1 else 0) + wakeN (wakeOne T k) l

/-- the tasks' blocks -/
def tkS (T : List Tk) : Nat → Prop := fun k => ∃ (i : Nat) (t : Tk), T[i]? = some t ∧ t.blk = k

theorem wakeOne_blk (T : List Tk) (k : Int) : (wakeOne T k).map Tk.blk = T.map Tk.blk := by
  unfold wakeOne
  rcases fndT_cases T k with ⟨_, h2⟩ | ⟨_, _, h2⟩ | ⟨h1, h1', t, h2, h3⟩
  · rw [h2]
  · rw [h2]
  · rw [h2]
    simp only
    split
    · rw [List.map_set]
      have hi : k.toNat - 1 < T.length := by omega
      have hp : t.go.blk = (T.map Tk.blk)[k.toNat - 1]'(by simpa using hi) := by
        rw [List.getElem?_eq_getElem hi] at h3
        rw [List.getElem_map, Option.some.inj h3]; rfl
      rw [hp, List.set_getElem_self]
    · rfl
theorem tkS_of {T T' : List Tk} (h : T'.map Tk.blk = T.map Tk.blk) {k : Nat} (hk : tkS T' k) : tkS T k := by
  obtain ⟨i, t, h1, h2⟩ := hk
  have h3 : (T'.map Tk.blk)[i]? = some k := by rw [List.getElem?_map, h1]; simp [h2]
  rw [h, List.getElem?_map] at h3
  cases h4 : T[i]? with
  | none => rw [h4] at h3; cases h3
  | some u => rw [h4] at h3; exact ⟨i, u, h4, by simpa using h3⟩

set_option maxHeartbeats 800000 in
theorem c_Wake (base P : Nat) (v : Value) (T : List Tk) (a : Option Addr) (n cp : Nat) (L : List Int) (w : World) (h : IsTurns w base P v T) (hL : RdI .i64 w a n L) (hne : ∀ b off, 0 < n → a = some ⟨b, off, none⟩ → ¬ tkS T b) :
    Calls Try.prog 18 #[.pointer (some ⟨P, 0, none⟩), .slice a n cp] w fun e w' => e = .returned (.int .i64 (wakeN T L)) ∧ IsTurns w' base P v (wakeAll T L) ∧ Fr (tkS T) w w' := by
  have hll := hL.hlen
  have hn := hL.le
  unfold maxLen at hn
  obtain ⟨WN, hWN⟩ : ∃ x, x = wakeN T L := ⟨_, rfl⟩
  obtain ⟨WA, hWA⟩ : ∃ x, x = wakeAll T L := ⟨_, rfl⟩
  rw [← hWN, ← hWA]
  have HWN := Lib.hid hWN
  have HWA := Lib.hid hWA
  clear hWN hWA
  have HLL := Lib.hid hll
  have H := Lib.hid h
  have HL := Lib.hid hL
  clear hll h hL
  go_enter Try.func18, Try.ntmps18
  go_wp2_with fail
  go_loopw [5, 11] (fun m i wr => ∃ (j : Nat) (c : Int) (T' : List Tk), i = .int .i64 j ∧ j ≤ n ∧ m = .int .i64 c ∧ 0 ≤ c ∧ c ≤ j ∧ c + wakeN T' (L.drop j) = WN ∧ wakeAll T' (L.drop j) = WA ∧ T'.map Tk.blk = T.map Tk.blk ∧ IsTurns wr base P v T' ∧ Fr (tkS T) w wr) (fun _ i _ => n - (intOf i).toNat)
  case atStart => exact ⟨0, 0, T, rfl, by omega, rfl, by omega, by omega, by simp [HWN.out], by simp [HWA.out], rfl, H.out, Fr.refl _ _⟩
  case round =>
    obtain ⟨j, c, T', rfl, hj, rfl, hc0, hc1, hN, hA, hB, hT, G⟩ := hrel
    by_cases hlt : j < n
    · obtain ⟨b, off, rfl, hb, hcell⟩ := HL.out.at_ (by omega)
      have hx := G.cell (hcell j hlt) (hne b off (by omega) rfl)
      have hd : L.drop j = L.getD j 0 :: L.drop (j + 1) := by
        have h1 : j < L.length := by have := HLL.out; omega
        rw [List.drop_eq_getElem_cons h1]
        simp [List.getD_eq_getElem?_getD, List.getElem?_eq_getElem h1]
      rw [hd] at hN hA
      unfold wakeN at hN
      unfold wakeAll at hA
      clear hcell hd
      generalize L.getD j 0 = k at *
      have hf := c_find base P v T' k wr hT
      have hob := wakeOne_blk T' k
      have HF := Lib.hid hf
      clear hf
      unfold waits at hN
      unfold wakeOne at hN hA hob
      have htt := Lib.hid hT
      have HB := Lib.hid hB
      rcases fndT_cases T' k with ⟨_, h2⟩ | ⟨_, _, h2⟩ | ⟨h1, h1', t, h2, h3⟩
      · rw [h2] at HF hN hA hob
        simp only at hN hA
        have e1 : ptrT none = .pointer none := rfl
        rw [e1] at HF
        have HN := Lib.hid hN
        have HA := Lib.hid hA
        clear hN hA hob h2 e1 hT hB
        go_wp2_with fail
        refine HF.out.mono ?_
        rintro e w' ⟨rfl, rfl⟩
        go_wp2
        go_roundw
        case rel => exact ⟨j + 1, c, T', by go_num, by omega, rfl, hc0, by omega, by simpa using HN.out, HA.out, HB.out, htt.out, G⟩
        case measure => simp [intOf]; omega
      · rw [h2] at HF hN hA hob
        simp only at hN hA
        have e1 : ptrT none = .pointer none := rfl
        rw [e1] at HF
        have HN := Lib.hid hN
        have HA := Lib.hid hA
        clear hN hA hob h2 e1 hT hB
        go_wp2_with fail
        refine HF.out.mono ?_
        rintro e w' ⟨rfl, rfl⟩
        go_wp2
        go_roundw
        case rel => exact ⟨j + 1, c, T', by go_num, by omega, rfl, hc0, by omega, by simpa using HN.out, HA.out, HB.out, htt.out, G⟩
        case measure => simp [intOf]; omega
      · rw [h2] at HF hN hA hob
        simp only at hN hA hob
        have e1 : ptrT (some t) = .pointer (some ⟨t.blk, 0, none⟩) := rfl
        rw [e1] at HF
        have hbk := hT.each _ t h3
        have hs1 : wr.cell? ⟨t.blk, 1, none⟩ = some (.int .i64 t.st) := hbk.cell 1
        have hz1 := hbk.frz 1
        have hin : tkS T t.blk := tkS_of hB ⟨_, t, h3, rfl⟩
        have hF4 := (Fr.refl (fun k => k = t.blk) wr).set (a := ⟨t.blk, 1, none⟩) (.inl rfl) (.int .i64 0)
        have hT4 := hT.setAt (u := t.go) h3 rfl ⟨(hT.rng _ t h3).1, (by unfold I64; omega : I64 0)⟩ (hbk.set 1 (.int .i64 0)) hF4
        have G4 := G.step hF4 (fun i hi => .inl (by rw [hi]; exact hin))
        have HT4 := Lib.hid hT4
        have HG4 := Lib.hid G4
        clear hT4 G4 hF4 hbk hT hB hin h2 h3 e1
        cases hst : t.st == 1 with
        | true =>
          simp only [hst, if_true] at hN hA hob
          have hse : t.st = 1 := by simpa using hst
          rw [hse] at hs1
          have HN := Lib.hid hN
          have HA := Lib.hid hA
          have HO := Lib.hid hob
          clear hN hA hob hst hse
          go_wp2_with fail
          refine HF.out.mono ?_
          rintro e w' ⟨rfl, rfl⟩
          go_wp2
          go_roundw
          case rel => exact ⟨j + 1, c + 1, _, by go_num, by omega, rfl, by omega, by omega, by have := HN.out; omega, HA.out, HO.out.trans HB.out, HT4.out, HG4.out⟩
          case measure => simp [intOf]; omega
        | false =>
          simp only [hst] at hN hA
          have hN : c + wakeN T' (L.drop (j + 1)) = WN := by simpa using hN
          have hA : wakeAll T' (L.drop (j + 1)) = WA := by simpa using hA
          have HN := Lib.hid hN
          have HA := Lib.hid hA
          have hsb : (t.st == 1) = false := hst
          have hsn : ¬ t.st = 1 := by simpa using hst
          clear hN hA hob hst
          go_wp2_with fail
          refine HF.out.mono ?_
          rintro e w' ⟨rfl, rfl⟩
          go_wp2
          go_roundw
          case rel => exact ⟨j + 1, c, T', by go_num, by omega, rfl, hc0, by omega, HN.out, HA.out, HB.out, htt.out, G⟩
          case measure => simp [intOf]; omega
    · have hd : L.drop j = [] := List.drop_of_length_le (by have := HLL.out; omega)
      rw [hd] at hN hA
      have HN := Lib.hid hN
      have HA := Lib.hid hA
      have HT := Lib.hid hT
      clear hd hN hA hT hB
      go_wp2
      go_ret
      have h1 := HN.out
      have h2 := HA.out
      unfold wakeN at h1
      unfold wakeAll at h2
      exact ⟨by rw [← h1]; simp, by rw [← h2]; exact HT.out, G⟩
end Go.Proofs.Ythpghoafjpbdbaa
