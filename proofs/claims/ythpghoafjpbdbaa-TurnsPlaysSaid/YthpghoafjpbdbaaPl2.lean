/- The document's Pick. -/
import Derived.Test.YthpghoafjpbdbaaPl1
import Derived.Deep.RegionHeld3
namespace Go.Proofs.Ythpghoafjpbdbaa
open Go.RowKit Go.HK
set_option maxRecDepth 100000

theorem tk_to (t : Tk) (s : Int) (h : 0 ≤ s ∧ s ≤ 2) : (t.to s).st = s := by rw [to_st, if_neg (by omega)]

set_option maxHeartbeats 2000000 in
theorem r_Pick {base R : Nat} {vt vs vn : Value} {T : List Tk} {LS : List (Option Addr × Nat × Nat)} {TL : List (List Int)} {N : Int} {w : World} (h : IsRf w base R vt vs vn T LS TL N) (pick : Int) (hpk : I64 pick) (hN : N < 900000000) :
    Calls Try.prog 23 #[.pointer (some ⟨R, 0, none⟩), .int .i64 pick] w fun e w' => e = .returned (.tuple #[.int .i64 (pickR T pick).1, .bool (pickR T pick).2]) ∧
      IsRf w' base R vt vs vn (pickT (TL.map tellP) T pick) LS TL (N + 1) ∧ Fr (rfS R vt vs vn) w w' := by
  have hq := r_Ready h
  by_cases hr : rdy T = []
  · have e1 : rdyAt T pick = none := by unfold rdyAt; rw [if_pos hr]
    rw [pickT_nil _ _ _ hr]
    unfold pickR
    rw [e1]
    rw [hr] at hq
    have HQ := Lib.hid hq
    have H := Lib.hid h
    clear hq h hr e1
    go_enter Try.func23, Try.ntmps23
    go_wp2_with fail
    refine HQ.out.mono ?_
    rintro e w1 ⟨v1, rfl, hv, f1⟩
    obtain ⟨a, cap, rfl, _⟩ := owns_rd hv
    have HF := Lib.hid f1
    clear hv f1
    simp only [List.length_nil]
    go_wp2
    go_ret2
    exact ⟨rfl, (H.out.fr0 HF.out).mono (by omega), HF.out.mono (fun _ _ h => h.elim)⟩
  · obtain ⟨i, t, e1, ht, hst, hg⟩ := rdyAt_spec T pick hr
    have hil : i < T.length := by
      rcases Nat.lt_or_ge i T.length with h1 | h1
      · exact h1
      · rw [List.getElem?_eq_none h1] at ht; cases ht
    obtain ⟨L, hL⟩ : ∃ L, TL[i]? = some L := ⟨_, List.getElem?_eq_getElem (by rw [h.l2]; exact hil)⟩
    obtain ⟨x, hx⟩ : ∃ x, LS[i]? = some x := ⟨_, List.getElem?_eq_getElem (by rw [h.l1]; exact hil)⟩
    obtain ⟨a, n, cp⟩ := x
    have hc := h.cnt i t ht
    obtain ⟨m, hm⟩ : ∃ m : Nat, t.n = m := ⟨t.n.toNat, by omega⟩
    have hBS : (TL.map tellP).getD i (fun _ => 2) = tellP L := by rw [List.getD_eq_getElem?_getD, List.getElem?_map, hL]; rfl
    have hpt : pickT (TL.map tellP) T pick = T.set i (t.bump.to (tellP L m)) := by
      unfold pickT
      rw [e1]
      simp only [ht]
      rw [hBS, hm, Int.toNat_natCast]
    have hpr : pickR T pick = ((i : Int) + 1, true) := by unfold pickR; rw [e1]
    rw [hpt, hpr]
    obtain ⟨hr0, hr1⟩ := tellP_rng L m
    obtain ⟨k, hk⟩ : ∃ k, k = (rdy T).length := ⟨_, rfl⟩
    have hm0 : 0 < k := by rw [hk]; exact List.length_pos_iff.2 hr
    have hml : k ≤ 128 := by rw [hk]; exact Nat.le_trans (rdyUp_le T T.length) h.len
    obtain ⟨hx1, hx2⟩ := pick_lt pick hm0
    rw [← hk] at hg
    generalize pickI pick k = r at *
    obtain ⟨gs, caps, es, hcs⟩ := h.stAt ht
    obtain ⟨gn, capn, en, hcn⟩ := h.snAt ht
    have hgs : vs.ownBlock = some gs := by rw [es]; rfl
    have hgn : vn.ownBlock = some gn := by rw [en]; rfl
    have hzs := own_frz h.st hgs i
    have hzn := own_frz h.sn hgn i
    have hne : gn ≠ gs := fun e => h.ne gs hgs (by rw [hgn, e])
    obtain ⟨at_, capt, et, hrow⟩ := owns_rd h.tl
    obtain ⟨gt, rfl, _, _, hct0⟩ := hrow (by omega)
    have hct := hct0 i (.slice a n cp) (by rw [List.getElem?_map, hx]; rfl)
    have hgt : vt.ownBlock = some gt := by rw [et]; rfl
    have hT : ∀ (g : Nat), vs.ownBlock = some g ∨ vn.ownBlock = some g → gt ≠ g ∧ R ≠ g := fun g hg' => by
      obtain ⟨_, h1, _⟩ := own_ty h.tl hgt
      have h2 : ∃ cs, w.heap[g]? = some (.cells cs 3 (0, 0)) := by
        rcases hg' with hg' | hg'
        · obtain ⟨cs, h2, _⟩ := own_ty h.st hg'; exact ⟨cs, h2⟩
        · obtain ⟨cs, h2, _⟩ := own_ty h.sn hg'; exact ⟨cs, h2⟩
      obtain ⟨cs, h2⟩ := h2
      exact ⟨fun e => (by rw [e, h2] at h1; cases h1), ne_ty h.str h2 (by decide)⟩
    have hR0 : w.cell? ⟨R, 0, none⟩ = some vt := h.str.cell 0
    have hR1 : w.cell? ⟨R, 1, none⟩ = some vs := h.str.cell 1
    have hR2 : w.cell? ⟨R, 2, none⟩ = some vn := h.str.cell 2
    have hTl := h.len
    obtain ⟨hLr, hLb⟩ := h.lists i _ L hx hL
    simp only at hLr hLb
    -- what comes of it
    have hset1 : ∀ w1, Fr (fun _ => False) w w1 → IsRf (w1.setCell ⟨gs, i, none⟩ (.int .i64 (tellP L m))) base R vt vs vn (T.set i ⟨t.blk, t.f, t.c, tellP L m, t.n⟩) LS TL N := fun w1 f =>
      (h.fr0 f).setSt (u := ⟨t.blk, t.f, t.c, tellP L m, t.n⟩) ht rfl (by unfold I64; simp only; omega) hgs
    have hset2 : ∀ w1, Fr (fun _ => False) w w1 → IsRf ((w1.setCell ⟨gs, i, none⟩ (.int .i64 (tellP L m))).setCell ⟨gn, i, none⟩ (.int .i64 ((m : Int) + 1))) base R vt vs vn (T.set i (t.bump.to (tellP L m))) LS TL (N + 1) := fun w1 f => by
      have h1 := (hset1 w1 f).setSn (i := i) (t := ⟨t.blk, t.f, t.c, tellP L m, t.n⟩) (u := t.bump.to (tellP L m)) (List.getElem?_set_self hil) (tk_to _ _ ⟨hr0, hr1⟩) (by rw [to_n, bump_n]; omega) hgn
      rw [List.set_set, to_n, bump_n, hm] at h1
      exact h1
    have hfr2 : ∀ w1, Fr (fun _ => False) w w1 → Fr (rfS R vt vs vn) w ((w1.setCell ⟨gs, i, none⟩ (.int .i64 (tellP L m))).setCell ⟨gn, i, none⟩ (.int .i64 ((m : Int) + 1))) := fun w1 f =>
      ((f.mono (fun _ _ h => h.elim)).set (a := ⟨gs, i, none⟩) (.inl (.inr (.inr (.inl hgs)))) _).set (a := ⟨gn, i, none⟩) (.inl (.inr (.inr (.inr hgn)))) _
    have hcells : ∀ w1, Fr (fun _ => False) w w1 → (w1.cell? ⟨R, 0, none⟩ = some vt ∧ w1.cell? ⟨R, 1, none⟩ = some vs ∧ w1.cell? ⟨R, 2, none⟩ = some vn ∧ w1.cell? ⟨gt, i, none⟩ = some (.slice a n cp) ∧ w1.cell? ⟨gn, i, none⟩ = some (.int .i64 m)) ∧ w1.cell? ⟨gs, i, none⟩ = some (.int .i64 t.st) := fun w1 f =>
      ⟨⟨f.cell hR0 (fun h => h), f.cell hR1 (fun h => h), f.cell hR2 (fun h => h), f.cell hct (fun h => h), f.cell (by rw [← hm]; exact hcn) (fun h => h)⟩, f.cell hcs (fun h => h)⟩
    have hafter : ∀ w1, Fr (fun _ => False) w w1 → (w1.setCell ⟨gs, i, none⟩ (.int .i64 (tellP L m))).cell? ⟨R, 0, none⟩ = some vt ∧ (w1.setCell ⟨gs, i, none⟩ (.int .i64 (tellP L m))).cell? ⟨R, 1, none⟩ = some vs ∧ (w1.setCell ⟨gs, i, none⟩ (.int .i64 (tellP L m))).cell? ⟨R, 2, none⟩ = some vn ∧ (w1.setCell ⟨gs, i, none⟩ (.int .i64 (tellP L m))).cell? ⟨gt, i, none⟩ = some (.slice a n cp) ∧ (w1.setCell ⟨gs, i, none⟩ (.int .i64 (tellP L m))).cell? ⟨gn, i, none⟩ = some (.int .i64 m) := fun w1 f => by
      have F := (Fr.refl (fun k => k = gs) w1).set (a := ⟨gs, i, none⟩) (.inl rfl) (.int .i64 (tellP L m))
      obtain ⟨⟨h1, h2, h3, h4, h5⟩, _⟩ := hcells w1 f
      exact ⟨F.cell h1 (hT gs (.inl hgs)).2, F.cell h2 (hT gs (.inl hgs)).2, F.cell h3 (hT gs (.inl hgs)).2, F.cell h4 (hT gs (.inl hgs)).1, F.cell h5 hne⟩
    have hzs1 : ∀ w1, Fr (fun _ => False) w w1 → w1.frozen? ⟨gs, i, none⟩ = false := fun w1 f => own_frz (h.fr0 f).st hgs i
    have hzn1 : ∀ w1, Fr (fun _ => False) w w1 → (w1.setCell ⟨gs, i, none⟩ (.int .i64 (tellP L m))).frozen? ⟨gn, i, none⟩ = false := fun w1 f => own_frz (hset1 w1 f).sn hgn i
    have htl := fun w1 (f : Fr (fun _ => False) w w1) => c_Tell a n cp L m w1 (hLr.below (f.below (Nat.le_refl _) (fun _ _ h => h))) (by omega)
    rw [es, et, en] at hcells hafter
    obtain ⟨nl, hnl⟩ : ∃ nl, nl = T.length := ⟨_, rfl⟩
    rw [← hnl] at hcells hafter hil hTl
    have HQ := Lib.hid hq
    have HK := Lib.hid hk
    have HG := Lib.hid hg
    have HS2 := Lib.hid hset2
    have HF2 := Lib.hid hfr2
    have HC := Lib.hid hcells
    have HA := Lib.hid hafter
    have HZ := Lib.hid hzs1
    have HZN := Lib.hid hzn1
    have HTL := Lib.hid htl
    have HX2 := Lib.hid hx2
    have hmm : (m : Int) ≤ 900000001 := by omega
    have HMM := Lib.hid hmm
    clear hmm
    obtain ⟨hp1, hp2⟩ := hpk
    clear hct0 hq hk hg hset1 hset2 hfr2 hcells hafter hzs1 hzn1 htl hx2 h hr hrow hct hcn hcs hzs hzn hR0 hR1 hR2 hT hLr hLb hpt hpr hBS e1 ht hL hx hnl et es en hgs hgn hgt hc hst hm hne
    generalize tellP L m = tp at *
    by_cases hp : pick < 0
    all_goals
      have hx2 := HX2.out
      first | rw [if_pos hp] at hx2 | rw [if_neg hp] at hx2
      have HX := Lib.hid hx2
      clear hx2
      go_enter Try.func23, Try.ntmps23
      go_wp2_with fail
      refine HQ.out.mono ?_
      rintro e w1 ⟨v1, rfl, hv, f1⟩
      rw [← HK.out] at hv
      obtain ⟨a1, cap, rfl, hc⟩ := owns_rd hv
      go_upto_region 6 with fail
      have hz : ∃ z : Int, z = (if pick < 0 then -(pick + 1) else pick) ∧ 0 ≤ z ∧ z ≤ 9223372036854775807 := ⟨_, rfl, by split <;> omega, by split <;> omega⟩
      obtain ⟨z, hz, hz0, hz1⟩ := hz
      first | rw [if_pos (by omega)] at hz | rw [if_neg (by omega)] at hz
      rw [← hz]
      have HX' := HX.out
      rw [← hz] at HX'
      obtain ⟨g, rfl, _, _, hc⟩ := hc hm0
      have hcell : w1.cell? ⟨g, (z % (k : Int)).toNat, none⟩ = some (.int .i64 ((i : Int) + 1)) := by
        rw [HX']
        refine hc _ _ ?_
        rw [← HG.out, List.getElem?_map, List.getD_eq_getElem?_getD]
        simp only [Int.toNat_natCast]
        rw [List.getElem?_eq_getElem (by rw [← HK.out]; exact hx1)]
        rfl
      have hb0 : 0 ≤ z % (k : Int) := by omega
      have hb1 : z % (k : Int) < k := by omega
      clear HX' HX hv hc hz hp
      have f1d := f1.drew
      obtain ⟨hd, hds⟩ := HC.out _ f1d
      have hz1 := HZ.out _ f1d
      have haf := HA.out _ f1d
      have hzn := HZN.out _ f1d
      have HT := Lib.hid (HTL.out _ f1d)
      have HFIN := Lib.hid (HS2.out _ f1d)
      have HFF := Lib.hid (HF2.out _ f1d)
      clear f1d f1
      go_wp2_with fail
      have hi1 : (0 : Int) ≤ (i : Int) := by omega
      have hi2 : (i : Int) < (nl : Int) := by omega
      have hwr1 : IntKind.i64.wrap (i : Int) = i := (IntWalk.i64_left _).trans (by unfold wrap64; omega)
      have hwr2 : IntKind.i64.wrap ((i : Int) + 1 - 1) = i := (IntWalk.i64_left _).trans (by unfold wrap64; omega)
      go_region_held3 (fun w' => w'.cell? ⟨R, 0, none⟩ = some (.slice (some ⟨gt, 0, none⟩) nl capt) ∧ w'.cell? ⟨R, 1, none⟩ = some (.slice (some ⟨gs, 0, none⟩) nl caps) ∧ w'.cell? ⟨R, 2, none⟩ = some (.slice (some ⟨gn, 0, none⟩) nl capn) ∧ w'.cell? ⟨gt, i, none⟩ = some (.slice a n cp) ∧ w'.cell? ⟨gn, i, none⟩ = some (.int .i64 m))
        (first | assumption | exact hd | exact haf)
        (first | (go_at_call 31; refine HT.out.mono ?_; rintro e w' ⟨rfl, rfl⟩))
      all_goals
        have hr2 : ((w1.setCell ⟨gs, i, none⟩ (.int .i64 tp)).drew).cell? ⟨R, 2, none⟩ = some (.slice (some ⟨gn, 0, none⟩) nl capn) := haf.2.2.1
        have hn2 : ((w1.setCell ⟨gs, i, none⟩ (.int .i64 tp)).drew).cell? ⟨gn, i, none⟩ = some (.int .i64 m) := haf.2.2.2.2
        have hzn' : ((w1.setCell ⟨gs, i, none⟩ (.int .i64 tp)).drew).frozen? ⟨gn, i, none⟩ = false := hzn
        have hmm : (m : Int) + 1 ≤ 9223372036854775807 := by have := HMM.out; omega
        go_wp2
        go_ret2
        exact ⟨rfl, HFIN.out, HFF.out⟩
end Go.Proofs.Ythpghoafjpbdbaa
