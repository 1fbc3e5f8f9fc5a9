/- The document's Add. -/
import Derived.Test.YthpghoafjpbdbaaPl2
import Derived.Maps.AppendAt
namespace Go.Proofs.Ythpghoafjpbdbaa
open Go.RowKit Go.HK
set_option maxRecDepth 100000

theorem lt_of_getElem? {α : Type} {l : List α} {i : Nat} {x : α} (h : l[i]? = some x) : i < l.length := by
  rcases Nat.lt_or_ge i l.length with h' | h'
  · exact h'
  · rw [List.getElem?_eq_none h'] at h; cases h
theorem info_ints : (Try.prog.info? 22).map (fun i => (i.zero, i.size, i.bytes)) = some (some (.slice none 0 0), 1, 24) := by kernel_rfl

set_option maxHeartbeats 2000000 in
theorem r_Add {base R : Nat} {vt vs vn : Value} {T : List Tk} {LS : List (Option Addr × Nat × Nat)} {TL : List (List Int)} {N : Int} {w : World} (h : IsRf w base R vt vs vn T LS TL N) (a : Option Addr) (n cp : Nat) (L : List Int)
    (hL : RdI .i64 w a n L) (hb : 0 < n → ∀ b off, a = some ⟨b, off, none⟩ → b < base) (hlen : T.length < 128) (hN : 0 ≤ N) (b f c : Nat) :
    Calls Try.prog 21 #[.pointer (some ⟨R, 0, none⟩), .slice a n cp] w fun e w' => e = .returned (.int .i64 ((T.length : Int) + 1)) ∧
      ∃ vt' vs' vn', IsRf w' base R vt' vs' vn' (T ++ [⟨b, f, c, 0, 0⟩]) (LS ++ [(a, n, cp)]) (TL ++ [L]) N ∧ Fr (rfS R vt vs vn) w w' := by
  have hR0 : w.cell? ⟨R, 0, none⟩ = some vt := h.str.cell 0
  have hR1 : w.cell? ⟨R, 1, none⟩ = some vs := h.str.cell 1
  have hz0 := h.str.frz 0
  obtain ⟨i0, hi, hi0, hi1, hi2⟩ := info_parts info_ints
  obtain ⟨j0, hj, hj0, hj1, hj2⟩ := info_parts info_int
  have hbase : base ≤ w.heap.size := by have := h.low; have := h.str.lt; omega
  obtain ⟨at_, capt, et, -⟩ := owns_rd h.tl
  obtain ⟨as_, caps, es, -⟩ := owns_rd h.st
  obtain ⟨an, capn, en, -⟩ := owns_rd h.sn
  have hown := h.tl
  rw [et] at hR0 hown
  rw [es] at hR1
  obtain ⟨nl, hnl⟩ : ∃ nl, nl = T.length := ⟨_, rfl⟩
  rw [← hnl] at hR0 hR1 hown hlen ⊢
  have H := Lib.hid h
  have HNL := Lib.hid hnl
  clear h hnl
  go_enter Try.func21, Try.ntmps21
  go_wp2_with (at_builtin; refine wpList_append_own_at _ rfl _ _ 50 rfl base 22 i0 (.slice none 0 0) 1 24 Try.underlying50 hi hi0 hi1 hi2 rfl (by decide) _ _ _ rfl (hown.alloc _) ⟨w.heap.size, 0, none⟩ 1 1 [.slice a n cp] rfl rfl ?c1 ?c2 ?c3 ?c4 ?c5 ?_)
  case c1 =>
    intro i u hu
    match i, hu with
    | 0, hu => simp at hu; subst hu; simp [Addr.add]
  case c2 => first | rfl | (intro u hu; simp at hu; subst hu; rfl)
  case c3 => unfold maxLen; omega
  case c4 => omega
  case c5 => first | omega | (simp; omega)
  intro v1 w1 hown1 hgrow1 _ hat1
  obtain ⟨a1, cap1, rfl, -⟩ := owns_rd hown1
  have H0 := H.out
  have hst0 := H0.st
  have hsn0 := H0.sn
  have hlow0 := H0.low
  have hne0 := H0.ne
  rw [es, ← HNL.out] at hst0
  rw [en, ← HNL.out] at hsn0
  rw [es, en, ← HNL.out] at hne0
  have hstr0 := H0.str
  rw [et, es, en, ← HNL.out] at hstr0
  rw [← HNL.out] at et es en
  -- behind the first one
  have hsz1 := hgrow1.size
  have F1 : Fr (fun k => (Value.slice at_ nl capt).ownBlock = some k) w w1 := ((Fr.refl _ w).alloc _).grown hgrow1 (fun k hk => .inl hk)
  have hRt : ¬ (Value.slice at_ nl capt).ownBlock = some R := fun e => by
    obtain ⟨_, h1, _⟩ := own_ty hown e; exact ne_ty hstr0 h1 (by decide) rfl
  have hst_t : ∀ g, (Value.slice as_ nl caps).ownBlock = some g → ¬ (Value.slice at_ nl capt).ownBlock = some g := fun g hg e => by
    obtain ⟨_, h1, _⟩ := own_ty hown e
    obtain ⟨_, h2, _⟩ := own_ty hst0 hg
    rw [h1] at h2; cases h2
  have hsn_t : ∀ g, (Value.slice an nl capn).ownBlock = some g → ¬ (Value.slice at_ nl capt).ownBlock = some g := fun g hg e => by
    obtain ⟨_, h1, _⟩ := own_ty hown e
    obtain ⟨_, h2, _⟩ := own_ty hsn0 hg
    rw [h1] at h2; cases h2
  have hstr1 := F1.blk hstr0 hRt
  have hst1 := F1.owns2 hst0 hst_t
  have hsn1 := F1.owns2 hsn0 hsn_t
  have F2 := (Fr.refl (fun k => k = R) w1).set (a := ⟨R, 0, none⟩) (.inl rfl) (.slice a1 (nl + 1) cap1)
  have hstr2 : Blk (w1.setCell ⟨R, 0, none⟩ (.slice a1 (nl + 1) cap1)) R 52 [.slice a1 (nl + 1) cap1, .slice as_ nl caps, .slice an nl capn] := hstr1.set 0 (.slice a1 (nl + 1) cap1)
  have hst2 := F2.owns2 hst1 (fun g hg e => by obtain ⟨_, h2, _⟩ := own_ty hst1 hg; exact ne_ty hstr1 h2 (by decide) e.symm)
  have hsn2 := F2.owns2 hsn1 (fun g hg e => by obtain ⟨_, h2, _⟩ := own_ty hsn1 hg; exact ne_ty hstr1 h2 (by decide) e.symm)
  have htl2 := F2.owns2 hown1 (fun g hg e => by obtain ⟨_, h2, _⟩ := own_ty hown1 hg; exact ne_ty hstr1 h2 (by decide) e.symm)
  have hR11 : (w1.setCell ⟨R, 0, none⟩ (.slice a1 (nl + 1) cap1)).cell? ⟨R, 1, none⟩ = some (.slice as_ nl caps) := hstr2.cell 1
  have hz11 := hstr2.frz 1
  have hR01 : w1.cell? ⟨R, 0, none⟩ = some (.slice at_ nl capt) := hstr1.cell 0
  have hz01 := hstr1.frz 0
  have hbs2 : base ≤ (w1.setCell ⟨R, 0, none⟩ (.slice a1 (nl + 1) cap1)).heap.size := by simp; simp at hsz1; omega
  have hb1' : base ≤ w1.heap.size := by simpa using hbs2
  have HF12 := Lib.hid ((F1.mono (fun k _ hk => (show rfS R vt vs vn k from .inr (.inl (by rw [et]; exact hk))))).step F2 (fun k hk => .inl (.inl hk)))
  have HTL2 := Lib.hid htl2
  have HST2 := Lib.hid hst2
  have HSN2 := Lib.hid hsn2
  have HSTR2 := Lib.hid hstr2
  have HNE := Lib.hid hne0
  clear F1 F2 hRt hst_t hsn_t hstr1 hst1 hsn1 hstr2 htl2 hsn2 hst2 hgrow1 hown1 hst0 hsn0 hstr0 H0 hne0 hown hat1 hR0 hR1 hz0
  have hnew2 : ((w1.setCell ⟨R, 0, none⟩ (.slice a1 (nl + 1) cap1)).alloc (.cells #[.int .i64 0] 3)).cell? ⟨w1.heap.size, 0, none⟩ = some (.int .i64 0) := (Blk.new_at (m := w1.heap.size) _ 3 [.int .i64 0] (by simp)).cell 0
  go_wp2_with (at_builtin; refine wpList_append_own_at _ rfl _ _ 22 rfl base 3 j0 (.int .i64 0) 1 8 Try.underlying22 hj hj0 hj1 hj2 rfl (by decide) _ _ _ rfl (HST2.out.alloc _) ⟨w1.heap.size, 0, none⟩ 1 1 [.int .i64 0] rfl rfl ?c1 ?c2 ?c3 ?c4 ?c5 ?_)
  case c1 =>
    intro i u hu
    match i, hu with
    | 0, hu => simp at hu; subst hu; exact hnew2
  case c2 => first | rfl | (intro u hu; simp at hu; subst hu; rfl)
  case c3 => unfold maxLen; omega
  case c4 => omega
  case c5 => first | omega | (simp; omega)
  intro v2 w3 hown3 hgrow3 _ hat3
  obtain ⟨a2, cap2, rfl, -⟩ := owns_rd hown3
  have hsz3 := hgrow3.size
  have hw2s : (w1.setCell ⟨R, 0, none⟩ (.slice a1 (nl + 1) cap1)).heap.size = w1.heap.size := by simp
  have F3 : Fr (fun k => (Value.slice as_ nl caps).ownBlock = some k) (w1.setCell ⟨R, 0, none⟩ (.slice a1 (nl + 1) cap1)) w3 := ((Fr.refl _ _).alloc _).grown hgrow3 (fun k hk => .inl hk)
  have hstr2 := HSTR2.out
  have hst2 := HST2.out
  have hsn2 := HSN2.out
  have htl2 := HTL2.out
  have hRt : ¬ (Value.slice as_ nl caps).ownBlock = some R := fun e => by
    obtain ⟨_, h1, _⟩ := own_ty hst2 e; exact ne_ty hstr2 h1 (by decide) rfl
  have htl_s : ∀ g, (Value.slice a1 (nl + 1) cap1).ownBlock = some g → ¬ (Value.slice as_ nl caps).ownBlock = some g := fun g hg e => by
    obtain ⟨_, h1, _⟩ := own_ty hst2 e
    obtain ⟨_, h2, _⟩ := own_ty htl2 hg
    rw [h1] at h2; cases h2
  have hsn_s : ∀ g, (Value.slice an nl capn).ownBlock = some g → ¬ (Value.slice as_ nl caps).ownBlock = some g := fun g hg e => HNE.out g e hg
  have hsnlt : ∀ g, (Value.slice an nl capn).ownBlock = some g → g < (w1.setCell ⟨R, 0, none⟩ (.slice a1 (nl + 1) cap1)).heap.size := fun g hg => (hsn2.lt g hg).2
  have hstr3 := F3.blk hstr2 hRt
  have htl3 := F3.owns2 htl2 htl_s
  have hsn3 := F3.owns2 hsn2 hsn_s
  have F4 := (Fr.refl (fun k => k = R) w3).set (a := ⟨R, 1, none⟩) (.inl rfl) (.slice a2 (nl + 1) cap2)
  have hstr4 : Blk (w3.setCell ⟨R, 1, none⟩ (.slice a2 (nl + 1) cap2)) R 52 [.slice a1 (nl + 1) cap1, .slice a2 (nl + 1) cap2, .slice an nl capn] := hstr3.set 1 (.slice a2 (nl + 1) cap2)
  have htl4 := F4.owns2 htl3 (fun g hg e => by obtain ⟨_, h2, _⟩ := own_ty htl3 hg; exact ne_ty hstr3 h2 (by decide) e.symm)
  have hsn4 := F4.owns2 hsn3 (fun g hg e => by obtain ⟨_, h2, _⟩ := own_ty hsn3 hg; exact ne_ty hstr3 h2 (by decide) e.symm)
  have hst4 := F4.owns2 hown3 (fun g hg e => by obtain ⟨_, h2, _⟩ := own_ty hown3 hg; exact ne_ty hstr3 h2 (by decide) e.symm)
  have hR12 : w3.cell? ⟨R, 1, none⟩ = some (.slice as_ nl caps) := hstr3.cell 1
  have hz12 := hstr3.frz 1
  have hR22 : (w3.setCell ⟨R, 1, none⟩ (.slice a2 (nl + 1) cap2)).cell? ⟨R, 2, none⟩ = some (.slice an nl capn) := hstr4.cell 2
  have hz22 := hstr4.frz 2
  have hbs4 : base ≤ (w3.setCell ⟨R, 1, none⟩ (.slice a2 (nl + 1) cap2)).heap.size := by simp; simp at hsz3 hbs2; omega
  have hnew4 : ((w3.setCell ⟨R, 1, none⟩ (.slice a2 (nl + 1) cap2)).alloc (.cells #[.int .i64 0] 3)).cell? ⟨w3.heap.size, 0, none⟩ = some (.int .i64 0) := (Blk.new_at (m := w3.heap.size) _ 3 [.int .i64 0] (by simp)).cell 0
  have hb3' : base ≤ w3.heap.size := by simpa using hbs4
  have HF14 := Lib.hid ((HF12.out.step F3 (fun k hk => .inl (show rfS R vt vs vn k from .inr (.inr (.inl (by rw [es]; exact hk)))))).step F4 (fun k hk => .inl (.inl hk)))
  have hne24 : ∀ g, (Value.slice a2 (nl + 1) cap2).ownBlock = some g → (Value.slice an nl capn).ownBlock ≠ some g := fun g hg e => by
    rcases hat3 with h1 | h1
    · rw [h1] at hg; exact HNE.out g hg e
    · rw [h1] at hg
      have h2 := hsnlt g e
      have h3 := Option.some.inj hg
      simp at h3 h2
      omega
  have hlt24 : ∀ g, (Value.slice a2 (nl + 1) cap2).ownBlock = some g → g < (w3.setCell ⟨R, 1, none⟩ (.slice a2 (nl + 1) cap2)).heap.size := fun g hg => (hst4.lt g hg).2
  have HTL4 := Lib.hid htl4
  have HST4 := Lib.hid hst4
  have HSN4 := Lib.hid hsn4
  have HSTR4 := Lib.hid hstr4
  have HNE4 := Lib.hid hne24
  have HLT4 := Lib.hid hlt24
  clear F3 F4 hRt htl_s hsn_s hstr3 htl3 hsn3 hstr4 htl4 hsn4 hst4 hgrow3 hown3 hat3 hne24 hlt24 hsnlt hstr2 hst2 hsn2 htl2 HTL2 HST2 HSN2 HSTR2 hnew2 hR11 hz11 hR01 hz01 hw2s
  go_wp2_with (at_builtin; refine wpList_append_own_at _ rfl _ _ 22 rfl base 3 j0 (.int .i64 0) 1 8 Try.underlying22 hj hj0 hj1 hj2 rfl (by decide) _ _ _ rfl (HSN4.out.alloc _) ⟨w3.heap.size, 0, none⟩ 1 1 [.int .i64 0] rfl rfl ?c1 ?c2 ?c3 ?c4 ?c5 ?_)
  case c1 =>
    intro i u hu
    match i, hu with
    | 0, hu => simp at hu; subst hu; exact hnew4
  case c2 => first | rfl | (intro u hu; simp at hu; subst hu; rfl)
  case c3 => unfold maxLen; omega
  case c4 => omega
  case c5 => first | omega | (simp; omega)
  intro v3 w5 hown5 hgrow5 _ hat5
  obtain ⟨a3, cap3, rfl, -⟩ := owns_rd hown5
  have hsz5 := hgrow5.size
  have F5 : Fr (fun k => (Value.slice an nl capn).ownBlock = some k) (w3.setCell ⟨R, 1, none⟩ (.slice a2 (nl + 1) cap2)) w5 := ((Fr.refl _ _).alloc _).grown hgrow5 (fun k hk => .inl hk)
  have hstr4 := HSTR4.out
  have hst4 := HST4.out
  have hsn4 := HSN4.out
  have htl4 := HTL4.out
  have hRt : ¬ (Value.slice an nl capn).ownBlock = some R := fun e => by
    obtain ⟨_, h1, _⟩ := own_ty hsn4 e; exact ne_ty hstr4 h1 (by decide) rfl
  have htl_s : ∀ g, (Value.slice a1 (nl + 1) cap1).ownBlock = some g → ¬ (Value.slice an nl capn).ownBlock = some g := fun g hg e => by
    obtain ⟨_, h1, _⟩ := own_ty hsn4 e
    obtain ⟨_, h2, _⟩ := own_ty htl4 hg
    rw [h1] at h2; cases h2
  have hstr5 := F5.blk hstr4 hRt
  have htl5 := F5.owns2 htl4 htl_s
  have hst5 := F5.owns2 hst4 (fun g hg e => HNE4.out g hg e)
  have F6 := (Fr.refl (fun k => k = R) w5).set (a := ⟨R, 2, none⟩) (.inl rfl) (.slice a3 (nl + 1) cap3)
  have hstr6 : Blk (w5.setCell ⟨R, 2, none⟩ (.slice a3 (nl + 1) cap3)) R 52 [.slice a1 (nl + 1) cap1, .slice a2 (nl + 1) cap2, .slice a3 (nl + 1) cap3] := hstr5.set 2 (.slice a3 (nl + 1) cap3)
  have htl6 := F6.owns2 htl5 (fun g hg e => by obtain ⟨_, h2, _⟩ := own_ty htl5 hg; exact ne_ty hstr5 h2 (by decide) e.symm)
  have hst6 := F6.owns2 hst5 (fun g hg e => by obtain ⟨_, h2, _⟩ := own_ty hst5 hg; exact ne_ty hstr5 h2 (by decide) e.symm)
  have hsn6 := F6.owns2 hown5 (fun g hg e => by obtain ⟨_, h2, _⟩ := own_ty hown5 hg; exact ne_ty hstr5 h2 (by decide) e.symm)
  have hR25 : w5.cell? ⟨R, 2, none⟩ = some (.slice an nl capn) := hstr5.cell 2
  have hz25 := hstr5.frz 2
  have hR16 : (w5.setCell ⟨R, 2, none⟩ (.slice a3 (nl + 1) cap3)).cell? ⟨R, 1, none⟩ = some (.slice a2 (nl + 1) cap2) := hstr6.cell 1
  have HF16 := Lib.hid ((HF14.out.step F5 (fun k hk => .inl (show rfS R vt vs vn k from .inr (.inr (.inr (by rw [en]; exact hk)))))).step F6 (fun k hk => .inl (.inl hk)))
  have hne6 : ∀ g, (Value.slice a2 (nl + 1) cap2).ownBlock = some g → (Value.slice a3 (nl + 1) cap3).ownBlock ≠ some g := fun g hg e => by
    rcases hat5 with h1 | h1
    · rw [h1] at e; exact HNE4.out g hg e
    · rw [h1] at e
      have h2 := HLT4.out g hg
      have h3 := Option.some.inj e
      simp at h3 h2
      omega
  have hfin : IsRf (w5.setCell ⟨R, 2, none⟩ (.slice a3 (nl + 1) cap3)) base R (.slice a1 (nl + 1) cap1) (.slice a2 (nl + 1) cap2) (.slice a3 (nl + 1) cap3) (T ++ [⟨b, f, c, 0, 0⟩]) (LS ++ [(a, n, cp)]) (TL ++ [L]) N := by
    have hl : (T ++ [(⟨b, f, c, 0, 0⟩ : Tk)]).length = nl + 1 := by simp [HNL.out]
    have hh := H.out
    refine ⟨hstr6, ?_, ?_, ?_, hne6, ?_, by simp [hh.l1], by simp [hh.l2], hlow0, by omega, ?_⟩
    · rw [hl, List.map_append]; exact htl6
    · rw [hl, List.map_append]; exact hst6
    · rw [hl, List.map_append]; exact hsn6
    · intro i x L' hx hL'
      have hRd : ∀ (x : Option Addr × Nat × Nat) (L' : List Int), RdI .i64 w x.1 x.2.1 L' → (0 < x.2.1 → ∀ b off, x.1 = some ⟨b, off, none⟩ → b < base) → RdI .i64 (w5.setCell ⟨R, 2, none⟩ (.slice a3 (nl + 1) cap3)) x.1 x.2.1 L' := fun x L' h1 h2 => ⟨h1.hlen, h1.le, h1.rng, fun h0 => by
        obtain ⟨b, off, e, h3, h4⟩ := h1.at_ h0
        exact ⟨b, off, e, Nat.lt_of_lt_of_le h3 HF16.out.size, fun i hi => HF16.out.cell (h4 i hi) (fun hk => by
          have := hh.base_le hk
          have := h2 h0 b off e
          simp only at *
          omega)⟩⟩
      by_cases hi : i < LS.length
      · rw [List.getElem?_append_left hi] at hx
        rw [List.getElem?_append_left (by rw [hh.l2, ← hh.l1]; exact hi)] at hL'
        obtain ⟨h1, h2⟩ := hh.lists i x L' hx hL'
        exact ⟨hRd x L' h1 h2, h2⟩
      · have hi2 := lt_of_getElem? hx
        simp at hi2
        have hie : i = LS.length := by omega
        subst hie
        rw [List.getElem?_append_right (Nat.le_refl _), Nat.sub_self] at hx
        rw [List.getElem?_append_right (by rw [hh.l2, ← hh.l1]; exact Nat.le_refl _), hh.l2, ← hh.l1, Nat.sub_self] at hL'
        simp at hx hL'
        subst hx
        subst hL'
        exact ⟨hRd (a, n, cp) _ hL hb, hb⟩
    · intro i t ht
      rcases get_append ht with ht | ⟨_, rfl⟩
      · exact hh.cnt i t ht
      · exact ⟨Int.le_refl _, hN, (by unfold I64; omega : I64 0)⟩
  have HFIN := Lib.hid hfin
  clear hfin hne6 F5 F6 hRt htl_s hstr5 htl5 hst5 hstr6 htl6 hst6 hsn6 hgrow5 hown5 hat5 hstr4 hst4 hsn4 htl4 HTL4 HST4 HSN4 HSTR4 HNE4 HLT4 hnew4 HF12 HF14 hL hb HNE H HNL et es en
  go_wp2
  go_ret
  exact ⟨by simp, _, _, _, HFIN.out, HF16.out⟩
end Go.Proofs.Ythpghoafjpbdbaa
