/- The task that adds another one and wakes it. -/
import Derived.Test.YthpghoafjpbdbaaTurns8
import Derived.Deep.RegionHeld3
namespace Go.Proofs.Ythpghoafjpbdbaa
open Go.RowKit Go.HK
set_option maxRecDepth 100000

theorem ent_adder (xs : Array Value) (w : World) : (callFunc 12 xs).run Try.prog w = .ok (.enter 12 xs) w := by
  go_simp

def adderC (P : Nat) (n made : Int) (x : Nat) : List Value := [.pointer (some ⟨P, 0, none⟩), .int .i64 n, .int .i64 made, .pointer (some ⟨x, 0, none⟩)]

theorem adder_one (base P : Nat) (v : Value) (T : List Tk) (c x : Nat) (made : Int) (w : World) (h : IsTurns w base P v T) (hlen : T.length < 128) (hc : Blk w c 31 (adderC P 0 made x)) :
    Calls Try.prog 12 #[.pointer (some ⟨c, 0, none⟩)] w fun e w' => e = .returned (.int .i64 0) ∧
      ∃ v' b, w.heap.size ≤ b ∧ IsTurns w' base P v' (T ++ [⟨b, 16, x, 0, 0⟩]) ∧ Blk w' c 31 (adderC P 1 ((T.length : Int) + 1) x) ∧ Fr (fun k => k = c ∨ addS P v k) w w' := by
  have hP : P ≠ c := ne_ty h.str hc (by decide)
  have hv : ∀ g, v.ownBlock = some g → g ≠ c := fun g hg => by
    obtain ⟨cs, h1, _⟩ := own_ty h.row hg
    exact (ne_ty hc h1 (by decide)).symm
  have hb : ∀ (i : Nat) (t : Tk), T[i]? = some t → t.blk ≠ c := fun i t ht => ne_ty (h.each i t ht) hc (by decide)
  have hc0 := hc.cell 0
  have hc1 := hc.cell 1
  have hc3 := hc.cell 3
  have hz1 := hc.frz 1
  have hs1 := hc.set 1 (.int .i64 1)
  have F1 := (Fr.refl (fun k => k = c) w).set (a := ⟨c, 1, none⟩) (.inl rfl) (.int .i64 1)
  have h1 := h.fr F1.drew hP (fun g hg e => hv g hg e) (fun i t ht e => hb i t ht e)
  have hadd := c_Add base P v T 16 x _ h1 hlen
  have HA := Lib.hid hadd
  have HS := Lib.hid hs1.drew
  have HF := Lib.hid F1.drew
  have hd0 := hs1.drew.cell 0
  have hd3 := hs1.drew.cell 3
  have HV := Lib.hid hv
  have HP := Lib.hid hP
  unfold adderC at hc0 hc1 hc3
  obtain ⟨m, hm⟩ : ∃ m : Nat, m = T.length := ⟨_, rfl⟩
  rw [← hm] at HA ⊢
  have HM := Lib.hid hm
  clear hadd hs1 F1 h1 h hc hb hv hm hP
  go_enter Try.func12, Try.ntmps12
  go_wp2_with fail
  go_region_held3 (fun w' => w'.cell? ⟨c, 0, none⟩ = some (.pointer (some ⟨P, 0, none⟩)) ∧ w'.cell? ⟨c, 3, none⟩ = some (.pointer (some ⟨x, 0, none⟩)))
    (first | assumption | exact ⟨hd0, hd3⟩ | exact ⟨hr0, hr3⟩ | exact ⟨hq0, hq3⟩)
    (first | (go_at_call 11; refine HA.out.mono ?_; rintro e w2 ⟨rfl, v', b, hb, h2, f2⟩
              have hcb : Blk w2 c 31 (adderC P 1 made x) := f2.blk HS.out (fun e => by
                rcases e with e | e
                · exact HP.out e.symm
                · exact HV.out _ e rfl)
              have hs2 := hcb.set 2 (.int .i64 ((m : Int) + 1))
              have hq0 : w2.cell? ⟨c, 0, none⟩ = some (.pointer (some ⟨P, 0, none⟩)) := hcb.cell 0
              have hq2 : w2.cell? ⟨c, 2, none⟩ = some (.int .i64 made) := hcb.cell 2
              have hq3 : w2.cell? ⟨c, 3, none⟩ = some (.pointer (some ⟨x, 0, none⟩)) := hcb.cell 3
              have hzz := hcb.frz 2
              have hr0 := hs2.cell 0
              have hr3 := hs2.cell 3
              have HB := Lib.hid hb
              have HH2 := Lib.hid h2
              have HF2 := Lib.hid f2
              have HCB := Lib.hid hcb
              clear hb h2 f2 hcb hs2))
  have hcb := HCB.out
  have h2 := HH2.out
  have f2 := HF2.out
  have hs2 := hcb.set 2 (.int .i64 ((m : Int) + 1))
  have F2 := (Fr.refl (fun k => k = c) w2).set (a := ⟨c, 2, none⟩) (.inl rfl) (.int .i64 ((m : Int) + 1))
  have h3 := h2.fr F2 HP.out (fun g hg e => by
    obtain ⟨cs, h4, _⟩ := own_ty h2.row hg
    exact ne_ty hcb h4 (by decide) e.symm) (fun i t ht e => ne_ty (h2.each i t ht) hcb (by decide) e)
  have hsz := HF.out.size
  have G : Fr (fun k => k = c ∨ addS P v k) w (w2.setCell ⟨c, 2, none⟩ (.int .i64 ((m : Int) + 1))) := ((HF.out.mono (fun _ _ h => .inl h)).step f2 (fun i hi => .inl (.inr hi))).step F2 (fun i hi => .inl (.inl hi))
  have H3 := Lib.hid h3
  have HG := Lib.hid G
  have HS2 := Lib.hid hs2
  clear h3 G hs2 F2 h2 f2 hcb
  go_wp2
  go_ret
  exact ⟨rfl, v', b, Nat.le_trans hsz HB.out, H3.out, HS2.out, HG.out⟩

theorem adder_two (P c x : Nat) (made : Int) (w : World) (hc : Blk w c 31 (adderC P 1 made x)) :
    Calls Try.prog 12 #[.pointer (some ⟨c, 0, none⟩)] w fun e w' => e = .returned (.int .i64 0) ∧ Blk w' c 31 (adderC P 2 made x) ∧ Fr (fun k => k = c) w w' := by
  have hc1 := hc.cell 1
  have hz1 := hc.frz 1
  have hs1 := hc.set 1 (.int .i64 2)
  have F1 := (Fr.refl (fun k => k = c) w).set (a := ⟨c, 1, none⟩) (.inl rfl) (.int .i64 2)
  have HS := Lib.hid hs1
  have HF := Lib.hid F1
  unfold adderC at hc1
  clear hs1 F1 hc
  go_enter Try.func12, Try.ntmps12
  go_wp2
  go_ret
  exact ⟨rfl, HS.out, HF.out⟩

theorem rdI_one (w : World) (k : Int) (hk : I64 k) : RdI .i64 (w.alloc (.cells #[.int .i64 k] 3)) (some ⟨w.heap.size, 0, none⟩) 1 [k] := by
  refine ⟨rfl, by unfold maxLen; omega, fun _ z hz => by simp at hz; subst hz; exact hk, fun _ => ⟨_, 0, rfl, by simp, fun i hi => ?_⟩⟩
  have h := (Blk.new w 3 [.int .i64 k]).cell (0 + i)
  obtain rfl : i = 0 := by omega
  exact h

theorem wake_one (base P : Nat) (v : Value) (T : List Tk) (made : Int) (w : World) (m : Nat) (hm' : m = w.heap.size) (h : IsTurns w base P v T) (hm : I64 made) :
    Calls Try.prog 18 #[.pointer (some ⟨P, 0, none⟩), .slice (some ⟨m, 0, none⟩) 1 1] (w.alloc (.cells #[.int .i64 made] 3)).drew fun e w' => e = .returned (.int .i64 (wakeN T [made])) ∧ IsTurns w' base P v (wakeAll T [made]) ∧ Fr (tkS T) (w.alloc (.cells #[.int .i64 made] 3)).drew w' := by
  subst hm'
  refine c_Wake base P v T (some ⟨w.heap.size, 0, none⟩) 1 1 [made] _ (h.fr ((Fr.refl (fun _ => False) _).alloc _).drew (fun h => h) (fun _ _ h => h) (fun _ _ _ h => h)) ((rdI_one _ made hm).below ((Fr.refl (fun _ => False) _).drew.below (Nat.le_refl _) (fun _ _ h => h))) (fun b off _ e hk => ?_)
  obtain ⟨i, t, ht, hbk⟩ := hk
  have e1 : w.heap.size = b := congrArg Addr.block (Option.some.inj e)
  have := (h.each i t ht).lt
  omega

theorem adder_three (base P : Nat) (v : Value) (T : List Tk) (c x : Nat) (made : Int) (w : World) (h : IsTurns w base P v T) (hm : I64 made) (hc : Blk w c 31 (adderC P 2 made x)) :
    Calls Try.prog 12 #[.pointer (some ⟨c, 0, none⟩)] w fun e w' => e = .returned (.int .i64 2) ∧ IsTurns w' base P v (wakeOne T made) ∧ Blk w' c 31 (adderC P 3 made x) ∧ Fr (fun k => k = c ∨ tkS T k) w w' := by
  have hP : P ≠ c := ne_ty h.str hc (by decide)
  have hv : ∀ g, v.ownBlock = some g → g ≠ c := fun g hg => by
    obtain ⟨cs, h1, _⟩ := own_ty h.row hg
    exact (ne_ty hc h1 (by decide)).symm
  have hb : ∀ (i : Nat) (t : Tk), T[i]? = some t → t.blk ≠ c := fun i t ht => ne_ty (h.each i t ht) hc (by decide)
  have hc0 := hc.cell 0
  have hc1 := hc.cell 1
  have hc2 := hc.cell 2
  have hz1 := hc.frz 1
  have hs1 := hc.set 1 (.int .i64 3)
  have F1 := (Fr.refl (fun k => k = c) w).set (a := ⟨c, 1, none⟩) (.inl rfl) (.int .i64 3)
  have h1 := h.fr F1 hP (fun g hg e => hv g hg e) (fun i t ht e => hb i t ht e)
  have hw := wake_one base P v T made (w.setCell ⟨c, 1, none⟩ (.int .i64 3)) w.heap.size (by simp) h1 hm
  have hs2 := (hs1.alloc (.cells #[.int .i64 made] 3)).drew
  have F2 := (F1.alloc (.cells #[.int .i64 made] 3)).drew
  have hd0 := hs1.drew.cell 0
  have hd2 := hs1.drew.cell 2
  have he0 := hs2.cell 0
  have he2 := hs2.cell 2
  have HB := Lib.hid hb
  have HW := Lib.hid hw
  have HS := Lib.hid hs2
  have HF := Lib.hid F2
  unfold adderC at hc0 hc1 hc2
  clear hs1 F1 hc h1 hw hs2 F2 h hv hb
  go_enter Try.func12, Try.ntmps12
  go_wp2_with fail
  go_region_held3 (fun w' => w'.cell? ⟨c, 0, none⟩ = some (.pointer (some ⟨P, 0, none⟩)) ∧ w'.cell? ⟨c, 2, none⟩ = some (.int .i64 made))
    (first | assumption | exact ⟨hd0, hd2⟩ | exact ⟨he0, he2⟩ | exact ⟨hq0, hq2⟩)
    (first | (go_at_call 18; refine HW.out.mono ?_; rintro e w2 ⟨rfl, h3, f3⟩
              have hcb : Blk w2 c 31 (adderC P 3 made x) := f3.blk HS.out (fun ⟨i, t, ht, e⟩ => HB.out i t ht e)
              have hq0 : w2.cell? ⟨c, 0, none⟩ = some (.pointer (some ⟨P, 0, none⟩)) := hcb.cell 0
              have hq2 : w2.cell? ⟨c, 2, none⟩ = some (.int .i64 made) := hcb.cell 2
              have H3 := Lib.hid h3
              have HF3 := Lib.hid f3
              have HCB := Lib.hid hcb
              clear h3 f3 hcb))
  have G : Fr (fun k => k = c ∨ tkS T k) w w2 := (HF.out.mono (fun _ _ h => .inl h)).step HF3.out (fun i hi => .inl (.inr hi))
  have HG := Lib.hid G
  clear G
  go_wp2
  go_ret
  exact ⟨rfl, H3.out, HCB.out, HG.out⟩
end Go.Proofs.Ythpghoafjpbdbaa
