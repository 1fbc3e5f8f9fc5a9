/- Add: a task more. -/
import Derived.Test.YthpghoafjpbdbaaTurns1
import Derived.Lib.SliceRun
import Derived.Laws.EntriesVeiled
namespace Go.Proofs.Ythpghoafjpbdbaa
open Go.RowKit Go.HK
set_option maxRecDepth 100000

theorem own_ty {w : World} {base : Nat} {e : TypeId} {v : Value} {n : Nat} {xs : List Value} {g : Nat} (h : w.ownsRow base e 1 v n xs) (hg : v.ownBlock = some g) :
    ∃ cs : Array Value, w.heap[g]? = some (.cells cs e (0, 0)) ∧ base ≤ g := by
  obtain ⟨hl, h | ⟨g', cap, cur, hv, hb, hc, hnc, hm, hs, ht⟩⟩ := h
  · obtain ⟨h1, _⟩ := h
    rw [h1] at hg; simp [Value.ownBlock] at hg
  · rw [hv] at hg
    simp [Value.ownBlock] at hg
    subst hg
    exact ⟨_, hc, hb⟩

theorem ne_ty {w : World} {b g : Nat} {T T' : TypeId} {cs : List Value} {cs' : Array Value} (h : Blk w b T cs) (h' : w.heap[g]? = some (.cells cs' T' (0, 0))) (hT : T ≠ T') : b ≠ g := by
  rintro rfl
  unfold Blk at h
  rw [h] at h'
  cases h'
  exact hT rfl

theorem IsTurns.fr {S : Nat → Prop} {w w' : World} {base P : Nat} {v : Value} {T : List Tk} (h : IsTurns w base P v T) (k : Fr S w w') (hP : ¬ S P) (hv : ∀ g, v.ownBlock = some g → ¬ S g)
    (ht : ∀ (i : Nat) (t : Tk), T[i]? = some t → ¬ S t.blk) : IsTurns w' base P v T :=
  ⟨k.blk h.str hP, k.owns2 h.row hv, fun i t e => k.blk (h.each i t e) (ht i t e), h.dist, h.low, h.len, h.rng⟩

theorem info_task : (Try.prog.info? 64).map (fun i => (i.zero, i.size, i.bytes)) = some (some (.pointer none), 1, 8) := by kernel_rfl

section
variable {P : Program}
theorem equalIn_func_nil (w : World) (d : Nat) (t : TypeId) {ps rs : Array TypeId} {vr : Bool} (fn : Fn) (xs ys : Array Value) (h : P.underlying t = some (.func ps rs vr)) :
    (Op.equalIn (d + 1) t (.func fn xs ys) .nilFunc).run P w = .ok false w := by
  simp [Op.equalIn, run_underlying h]
theorem eql_func_nil (w : World) (t : TypeId) {ps rs : Array TypeId} {vr : Bool} (fn : Fn) (xs ys : Array Value) (h : P.underlying t = some (.func ps rs vr)) :
    (binOp .eql t (.func fn xs ys) .nilFunc).run P w = .ok (.bool false) w := by
  simp only [binOp]
  simp [Op.equal, Op.maxDepth, equalIn_func_nil w 9999 t fn xs ys h]
end

theorem get_append {α : Type} {T : List α} {x t : α} {i : Nat} (h : (T ++ [x])[i]? = some t) : T[i]? = some t ∨ (i = T.length ∧ t = x) := by
  by_cases hi : i < T.length
  · rw [List.getElem?_append_left hi] at h; exact .inl h
  · rw [List.getElem?_append_right (by omega)] at h
    right
    have : i - T.length = 0 := by
      rcases Nat.eq_zero_or_pos (i - T.length) with h0 | h0
      · exact h0
      · rw [List.getElem?_eq_none (by simp; omega)] at h; cases h
    rw [this] at h
    simp at h
    exact ⟨by omega, h.symm⟩

/-- where Add writes -/
def addS (P : Nat) (v : Value) : Nat → Prop := fun k => k = P ∨ v.ownBlock = some k

theorem c_Add (base P : Nat) (v : Value) (T : List Tk) (f c : Nat) (w : World) (h : IsTurns w base P v T) (hlen : T.length < 128) :
    Calls Try.prog 11 #[.pointer (some ⟨P, 0, none⟩), .func (.func f) #[.pointer (some ⟨c, 0, none⟩)] #[]] w fun e w' => e = .returned (.tuple #[.int .i64 ((T.length : Int) + 1), .int .i64 0]) ∧
      ∃ v' b, w.heap.size ≤ b ∧ IsTurns w' base P v' (T ++ [⟨b, f, c, 0, 0⟩]) ∧ Fr (addS P v) w w' := by
  have hs := h.str.cell 0
  have hfz := h.str.frz 0
  obtain ⟨i0, hi, hz0, hz1, hz2⟩ := info_parts info_task
  have hown := h.row
  obtain ⟨a, cap, rfl, hrow⟩ := owns_rd h.row
  have hbase : base ≤ w.heap.size := by have := h.low.1; have := h.str.lt; omega
  have hq := fun w xs ys => eql_func_nil w 35 (.func f) xs ys Try.underlying35
  have H := Lib.hid h
  clear h hrow
  generalize hn : T.length = n at *
  have HN := Lib.hid hn
  clear hn
  go_enter Try.func11, Try.ntmps11
  go_wp2_with (at_builtin; refine wpList_append_own _ rfl _ _ 60 rfl base 64 i0 (.pointer none) 1 8 Try.underlying60 hi hz0 hz1 hz2 rfl (by decide) _ _ _ rfl ((hown.alloc _).alloc _) ⟨w.heap.size + 1, 0, none⟩ 1 1 [.pointer (some ⟨w.heap.size, 0, none⟩)] rfl rfl ?c1 ?c2 ?c3 ?c4 ?c5 ?_)
  case c1 =>
    intro i u hu
    match i, hu with
    | 0, hu => simp at hu; subst hu; simp [Addr.add]
  case c2 => first | rfl | (intro u hu; simp at hu; subst hu; rfl)
  case c3 => unfold maxLen; omega
  case c4 => omega
  case c5 => first | omega | (simp; omega)
  intro v' w4 hown4 hgrow _
  obtain ⟨a', cap', rfl, _⟩ := owns_rd hown4
  have hg4 := hgrow.size
  have HH := H.out
  have hpt : ∀ g, (Value.slice a n cap).ownBlock = some g → P ≠ g := fun g hg => by
    obtain ⟨cs, h1, _⟩ := own_ty hown hg
    exact ne_ty HH.str h1 (by decide)
  have hnew := Blk.new w 66 [.func (.func f) #[.pointer (some ⟨c, 0, none⟩)] #[], .int .i64 0, .int .i64 0]
  have F0 : Fr (addS P (.slice a n cap)) w ((w.alloc (.cells #[.func (.func f) #[.pointer (some ⟨c, 0, none⟩)] #[], .int .i64 0, .int .i64 0] 66)).alloc (.cells #[.pointer (some ⟨w.heap.size, 0, none⟩)] 64)) := ((Fr.refl _ w).alloc _).alloc _
  have F1 := F0.grown hgrow (fun k hk => .inl (.inr hk))
  have hown2 := (hown.alloc (.cells #[.func (.func f) #[.pointer (some ⟨c, 0, none⟩)] #[], .int .i64 0, .int .i64 0] 66)).alloc (.cells #[.pointer (some ⟨w.heap.size, 0, none⟩)] 64)
  have hkeep : ∀ (b : Nat) (ty : TypeId) (cs : List Value), Blk ((w.alloc (.cells #[.func (.func f) #[.pointer (some ⟨c, 0, none⟩)] #[], .int .i64 0, .int .i64 0] 66)).alloc (.cells #[.pointer (some ⟨w.heap.size, 0, none⟩)] 64)) b ty cs → ty ≠ 64 → Blk w4 b ty cs := fun b ty cs hb hty => by
    refine hb.of_eq (hgrow.block b hb.lt ?_)
    intro he
    obtain ⟨cs', h1, _⟩ := own_ty hown2 he.symm
    exact ne_ty hb h1 hty rfl
  have hP4 : Blk w4 P 62 [.slice a n cap] := hkeep _ _ _ ((HH.str.alloc _).alloc _) (by decide)
  have hN4 : Blk w4 w.heap.size 66 [.func (.func f) #[.pointer (some ⟨c, 0, none⟩)] #[], .int .i64 0, .int .i64 0] := hkeep _ _ _ (hnew.alloc _) (by decide)
  have hT4 : ∀ (i : Nat) (t : Tk), T[i]? = some t → Blk w4 t.blk 66 t.cells := fun i t ht => hkeep _ _ _ (((HH.each i t ht).alloc _).alloc _) (by decide)
  have hs4 := hP4.cell 0
  have hz4 := hP4.frz 0
  have F2 := F1.set (a := ⟨P, 0, none⟩) (.inl (.inl rfl)) (.slice a' (n + 1) cap')
  have hP5 := hP4.set 0 (.slice a' (n + 1) cap')
  have hown5 : (w4.setCell ⟨P, 0, none⟩ (.slice a' (n + 1) cap')).ownsRow base 64 1 (.slice a' (n + 1) cap') (n + 1) (T.map Tk.ptr ++ [.pointer (some ⟨w.heap.size, 0, none⟩)]) :=
    ((Fr.refl (fun k => k = P) w4).set (a := ⟨P, 0, none⟩) (.inl rfl) _).owns2 hown4 (fun g hg => by
      rintro rfl
      obtain ⟨cs', h1, _⟩ := own_ty hown4 hg
      exact ne_ty hP4 h1 (by decide) rfl)
  have HP5 := Lib.hid hP5
  have HO5 := Lib.hid hown5
  have HN4 := Lib.hid hN4
  have HT4 := Lib.hid hT4
  have HF2 := Lib.hid F2
  clear hP5 hown5 hN4 hT4 F0 F1 F2 hown2 hkeep hnew hpt hgrow hown4 HH hP4 hown
  go_wp2
  go_ret2
  have HH := H.out
  have hlt : ∀ (i : Nat) (t : Tk), T[i]? = some t → t.blk < w.heap.size := fun i t ht => (HH.each i t ht).lt
  have hPlt := HH.str.lt
  refine ⟨by simp, _, w.heap.size, Nat.le_refl _, ⟨HP5.out, ?_, ?_, ?_, ⟨HH.low.1, ?_⟩, ?_, ?_⟩, HF2.out⟩
  · have := HO5.out
    simp only [List.map_append, List.map_cons, List.map_nil, List.length_append, List.length_cons, List.length_nil, HN.out]
    exact this
  · intro i t ht
    rcases get_append ht with ht | ⟨_, rfl⟩
    · exact (HT4.out i t ht).set_other (a := ⟨P, 0, none⟩) (by
        rintro e
        have h1 := HH.each i t ht
        rw [e] at h1
        have h2 := HH.str
        unfold Blk at h1 h2
        rw [h1] at h2
        cases h2) _
    · exact HN4.out.set_other (a := ⟨P, 0, none⟩) (by show w.heap.size ≠ P; omega) _
  · intro i j t u ht hu he
    rcases get_append ht with ht | ⟨rfl, rfl⟩ <;> rcases get_append hu with hu | ⟨rfl, rfl⟩
    · exact HH.dist i j t u ht hu he
    · have := hlt i t ht; simp only at he; omega
    · have := hlt j u hu; simp only at he; omega
    · rfl
  · intro i t ht
    rcases get_append ht with ht | ⟨rfl, rfl⟩
    · exact HH.low.2 i t ht
    · exact hbase
  · have := HN.out; simp; omega
  · intro i t ht
    rcases get_append ht with ht | ⟨rfl, rfl⟩
    · exact HH.rng i t ht
    · exact ⟨(by unfold I64; omega : I64 0), (by unfold I64; omega : I64 0)⟩
end Go.Proofs.Ythpghoafjpbdbaa
