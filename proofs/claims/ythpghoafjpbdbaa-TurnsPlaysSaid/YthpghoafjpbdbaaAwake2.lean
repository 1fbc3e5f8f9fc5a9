/- ballastlaw02.awake answers true. -/
import Derived.Test.YthpghoafjpbdbaaTurns9
namespace Go.Proofs.Ythpghoafjpbdbaa
open Go.RowKit Go.HK
set_option maxRecDepth 100000

variable {Z : Nat → Prop}

section
variable {P : Program}
theorem equalIn_nil_nil (w : World) (d : Nat) (t : TypeId) {ps rs : Array TypeId} {vr : Bool} (h : P.underlying t = some (.func ps rs vr)) :
    (Op.equalIn (d + 1) t .nilFunc .nilFunc).run P w = .ok true w := by
  simp [Op.equalIn, run_underlying h]
theorem eql_nil_nil (w : World) (t : TypeId) {ps rs : Array TypeId} {vr : Bool} (h : P.underlying t = some (.func ps rs vr)) :
    (binOp .eql t .nilFunc .nilFunc).run P w = .ok (.bool true) w := by
  simp only [binOp]
  simp [Op.equal, Op.maxDepth, equalIn_nil_nil w 9999 t h]
end

theorem c_AddNil (p : Nat) (w : World) : Calls Try.prog 11 #[.pointer (some ⟨p, 0, none⟩), .nilFunc] w fun e w' => e = .returned (.tuple #[.int .i64 0, .int .i64 1]) ∧ w = w' := by
  have hq := fun w => eql_nil_nil w 35 Try.underlying35
  go_enter Try.func11, Try.ntmps11
  go_wp2
  go_ret2
  exact ⟨rfl, rfl⟩

theorem rdI_new {w : World} (xs : List Int) (hx : ∀ z ∈ xs, I64 z) (hl : xs.length ≤ 1000) : RdI .i64 (w.alloc (.cells (xs.map (.int .i64)).toArray 3)) (some ⟨w.heap.size, 0, none⟩) xs.length xs := by
  refine ⟨rfl, by unfold maxLen; omega, fun _ => hx, fun _ => ⟨_, 0, rfl, by simp, fun i hi => ?_⟩⟩
  have h := (Blk.new w 3 (xs.map (.int .i64))).cell (0 + i)
  rw [h]
  simp [List.getD_eq_getElem?_getD, List.getElem?_eq_getElem hi]

/-- a told one, just made -/
theorem job_new (hZ : ∀ b, Z b) (base : Nat) (w : World) (xs : List Int) (hx : ∀ z ∈ xs, I64 z) (hl : xs.length ≤ 1000) (n : Nat) (hn : n = xs.length) :
    jobAt Z base ((w.alloc (.cells (xs.map (.int .i64)).toArray 3)).alloc (.cells #[.slice (some ⟨w.heap.size, 0, none⟩) n n, .int .i64 0] 29)) ⟨0, 16, w.heap.size + 1, 0, 0⟩ (tellP xs) := by
  subst hn
  have h1 := (rdI_new (w := w) xs hx hl).below ((Fr.refl (fun _ => False) _).alloc (.cells #[.slice (some ⟨w.heap.size, 0, none⟩) xs.length xs.length, .int .i64 0] 29) |>.below (Nat.le_refl _) (fun _ _ h => h))
  refine .inl ⟨rfl, some ⟨w.heap.size, 0, none⟩, xs.length, xs.length, xs, Blk.new_at _ _ _ (by simp), h1, fun _ b off e => ?_, rfl⟩
  obtain rfl : w.heap.size = b := congrArg Addr.block (Option.some.inj e)
  exact .inr ⟨hZ _, _, (Blk.new w 3 _).alloc _⟩

theorem TW.nil {w : World} {base P : Nat} {v : Value} (h : IsTurns w base P v []) : TW Z w base P v [] [] 0 :=
  ⟨h, rfl, fun i t B ht => by simp at ht, fun i j t u ht => by simp at ht, fun i t ht => by simp at ht, fun i t ht => by simp at ht⟩
theorem TW.cast {w : World} {base P : Nat} {v : Value} {T T' : List Tk} {BS : List (Nat → Int)} {N : Int} (h : TW Z w base P v T BS N) (e : T = T') : TW Z w base P v T' BS N := e ▸ h

theorem c_PickX {base P : Nat} {v : Value} {T : List Tk} {BS : List (Nat → Int)} {N : Int} {w : World} (h : TW Z w base P v T BS N) (pick : Int) (r : Int) (b : Bool) (T' : List Tk) (hpk : I64 pick) (hN : N < 900000000)
    (e1 : pickR T pick = (r, b)) (e2 : pickT BS T pick = T') :
    Calls Try.prog 13 #[.pointer (some ⟨P, 0, none⟩), .int .i64 pick] w fun e w' => e = .returned (.tuple #[.int .i64 r, .bool b]) ∧ TW Z w' base P v T' BS (N + 1) ∧ Fr (tsS T) w w' := by
  have h1 := c_PickT base P v T BS N pick w h hpk hN
  rw [e1, e2] at h1
  exact h1
theorem c_WakeX {base P : Nat} {v : Value} {T : List Tk} {BS : List (Nat → Int)} {N : Int} {w : World} (h : TW Z w base P v T BS N) (a : Option Addr) (n cp : Nat) (L : List Int) (r : Int) (T' : List Tk) (hL : RdI .i64 w a n L) (hne : ∀ b off, 0 < n → a = some ⟨b, off, none⟩ → RR Z base w b)
    (e1 : wakeN T L = r) (e2 : wakeAll T L = T') :
    Calls Try.prog 18 #[.pointer (some ⟨P, 0, none⟩), .slice a n cp] w fun e w' => e = .returned (.int .i64 r) ∧ TW Z w' base P v T' BS N ∧ Fr (tsS T) w w' := by
  have h1 := c_WakeT base P v T BS N a n cp L w h hL hne
  rw [e1, e2] at h1
  exact h1.mono fun e w' ⟨h2, h3, h4⟩ => ⟨h2, h3, h4.mono (fun k _ ⟨i, t, ht, e⟩ => ⟨i, t, ht, .inl e.symm⟩)⟩
theorem c_StateX {base P : Nat} {v : Value} {T : List Tk} {BS : List (Nat → Int)} {N : Int} {w : World} (h : TW Z w base P v T BS N) (k r : Int) (e1 : stT T k = r) :
    Calls Try.prog 14 #[.pointer (some ⟨P, 0, none⟩), .int .i64 k] w fun e w' => e = .returned (.int .i64 r) ∧ w = w' := by
  have h1 := c_State base P v T k w h.tu
  rw [e1] at h1
  exact h1.mono fun e w' ⟨h2, h3⟩ => ⟨h2, h3.symm⟩
theorem c_StepsX {base P : Nat} {v : Value} {T : List Tk} {BS : List (Nat → Int)} {N : Int} {w : World} (h : TW Z w base P v T BS N) (k r : Int) (e1 : nT T k = r) :
    Calls Try.prog 15 #[.pointer (some ⟨P, 0, none⟩), .int .i64 k] w fun e w' => e = .returned (.int .i64 r) ∧ w = w' := by
  have h1 := c_Steps base P v T k w h.tu
  rw [e1] at h1
  exact h1.mono fun e w' ⟨h2, h3⟩ => ⟨h2, h3.symm⟩

set_option maxHeartbeats 1600000 in
theorem awake_true (w : World) : Calls Try.prog 9 #[] w fun e w' => e = .returned (.bool true) ∧ Fr (fun _ => False) w w' := by
  go_enter Try.func9, Try.ntmps9
  go_wp2_with fail
  refine (c_New w).mono ?_
  rintro e w1 ⟨rfl, h1, f1⟩
  obtain ⟨P, hP⟩ : ∃ P, P = w.heap.size := ⟨_, rfl⟩
  rw [← hP] at h1 ⊢
  have HP := Lib.hid hP
  clear hP
  go_wp2_with fail
  have F4 : Fr (fun _ => False) w1 ((w1.alloc (.cells #[.int .i64 0, .int .i64 1, .int .i64 2] 3)).alloc (.cells #[.slice (some ⟨w1.heap.size, 0, none⟩) 3 3, .int .i64 0] 29)) := ((Fr.refl _ w1).alloc _).alloc _
  have F5 : Fr (fun _ => False) ((w1.alloc (.cells #[.int .i64 0, .int .i64 1, .int .i64 2] 3)).alloc (.cells #[.slice (some ⟨w1.heap.size, 0, none⟩) 3 3, .int .i64 0] 29)) ((((w1.alloc (.cells #[.int .i64 0, .int .i64 1, .int .i64 2] 3)).alloc (.cells #[.slice (some ⟨w1.heap.size, 0, none⟩) 3 3, .int .i64 0] 29)).alloc (.cells #[.int .i64 0, .int .i64 1, .int .i64 2] 3)).alloc (.cells #[.slice (some ⟨w1.heap.size + 1 + 1, 0, none⟩) 3 3, .int .i64 0] 29)) := ((Fr.refl _ _).alloc _).alloc _
  have hrg : ∀ z ∈ [(0 : Int), 1, 2], I64 z := by intro z hz; simp at hz; unfold I64; omega
  have j1 := (job_new (fun _ => trivial) P w1 [0, 1, 2] hrg (by decide) 3 rfl).fr F5 (fun h => h) (fun _ _ h => h)
  have j2 := job_new (fun _ => trivial) P ((w1.alloc (.cells #[.int .i64 0, .int .i64 1, .int .i64 2] 3)).alloc (.cells #[.slice (some ⟨w1.heap.size, 0, none⟩) 3 3, .int .i64 0] 29)) [0, 1, 2] hrg (by decide) 3 rfl
  simp only [World.size_alloc] at j2
  have t0 := (TW.nil (Z := fun _ => True) h1).fr0 (F4.trans F5)
  have G0 := f1.trans (F4.trans F5)
  have hb1 : P ≤ w1.heap.size := by have := h1.str.lt; omega
  have hb2 : P ≤ w1.heap.size + 1 := by omega
  have hb3 : P ≤ w1.heap.size + 1 + 1 + 1 := by omega
  have hx12 : w1.heap.size + 1 ≠ w1.heap.size + 1 + 1 + 1 := by omega
  have hPl : w.heap.size ≤ P := by rw [HP.out]; exact Nat.le_refl _
  replace j1 : jobAt (fun _ => True) P ((((w1.alloc (.cells #[.int .i64 0, .int .i64 1, .int .i64 2] 3)).alloc (.cells #[.slice (some ⟨w1.heap.size, 0, none⟩) 3 3, .int .i64 0] 29)).alloc (.cells #[.int .i64 0, .int .i64 1, .int .i64 2] 3)).alloc (.cells #[.slice (some ⟨w1.heap.size + 1 + 1, 0, none⟩) 3 3, .int .i64 0] 29)) ⟨0, 16, w1.heap.size + 1, 0, 0⟩ (tellP [0, 1, 2]) := j1
  replace j2 : jobAt (fun _ => True) P ((((w1.alloc (.cells #[.int .i64 0, .int .i64 1, .int .i64 2] 3)).alloc (.cells #[.slice (some ⟨w1.heap.size, 0, none⟩) 3 3, .int .i64 0] 29)).alloc (.cells #[.int .i64 0, .int .i64 1, .int .i64 2] 3)).alloc (.cells #[.slice (some ⟨w1.heap.size + 1 + 1, 0, none⟩) 3 3, .int .i64 0] 29)) ⟨0, 16, w1.heap.size + 1 + 1 + 1, 0, 0⟩ (tellP [0, 1, 2]) := j2
  clear F4 F5 h1 f1
  generalize ((((w1.alloc (.cells #[.int .i64 0, .int .i64 1, .int .i64 2] 3)).alloc (.cells #[.slice (some ⟨w1.heap.size, 0, none⟩) 3 3, .int .i64 0] 29)).alloc (.cells #[.int .i64 0, .int .i64 1, .int .i64 2] 3)).alloc (.cells #[.slice (some ⟨w1.heap.size + 1 + 1, 0, none⟩) 3 3, .int .i64 0] 29)) = W0 at *
  generalize w1.heap.size + 1 + 1 + 1 = x2 at *
  generalize w1.heap.size + 1 = x1 at *
  have hlow : ∀ (S : Nat → Prop) wa wb, Fr S wa wb → Fr (fun _ => False) w wa → (∀ k, S k → P ≤ k) → Fr (fun _ => False) w wb := fun S wa wb h k hs => k.step h (fun i hi => .inr (Nat.le_trans hPl (hs i hi)))
  have HL := Lib.hid hlow
  clear hlow hb1
  -- the first task
  refine (c_AddT P P _ [] [] 0 16 x1 (tellP [0, 1, 2]) W0 t0 (by omega) (by simp) j1 (fun i t ht => by simp at ht) hb2).mono ?_
  rintro e w2 ⟨rfl, v1, b1, _, t1, f1⟩
  have j2' := j2.fr f1 (fun hk => by
    rcases hk with e | e
    · obtain ⟨ty, cs, h1, _, h3, _⟩ := job_ty j2
      exact ne_ty h1 t0.tu.str h3 e
    · simp [Value.ownBlock] at e) (fun b hb hk => by
    rcases hk with e | e
    · exact (t0.sep hb).1 e
    · simp [Value.ownBlock] at e)
  have G1 := HL.out _ _ _ f1 G0 (fun k hk => t0.base_le (.inr hk))
  replace t1 : TW (fun _ => True) w2 P P v1 [⟨b1, 16, x1, 0, 0⟩] [tellP [0, 1, 2]] 0 := t1
  clear t0 G0 f1 j1 j2
  simp only [List.length_nil]
  go_wp2_with fail
  -- the second one
  refine (c_AddT P P _ _ _ 0 16 x2 (tellP [0, 1, 2]) w2 t1 (by omega) (by simp) j2' (fun i t ht => by
    match i, ht with
    | 0, ht => simp at ht; subst ht; exact hx12) hb3).mono ?_
  rintro e w3 ⟨rfl, v2, b2, _, t2, f2⟩
  have G2 := HL.out _ _ _ f2 G1 (fun k hk => t1.base_le (.inr hk))
  replace t2 : TW (fun _ => True) w3 P P v2 [⟨b1, 16, x1, 0, 0⟩, ⟨b2, 16, x2, 0, 0⟩] [tellP [0, 1, 2], tellP [0, 1, 2]] 0 := t2
  clear t1 G1 f2 j2' hx12 hb2 hb3
  simp only [List.length_cons, List.length_nil]
  go_wp2_with fail
  refine (c_AddNil P w3).mono ?_
  rintro e w' ⟨rfl, rfl⟩
  -- picks
  go_wp2_with fail
  refine (c_PickX t2 5 2 true [⟨b1, 16, x1, 0, 0⟩, ⟨b2, 16, x2, 0, 1⟩] (by unfold I64; omega) (by omega) (by kernel_rfl) (by kernel_rfl)).mono ?_
  rintro e w4 ⟨rfl, t3, f3⟩
  have G3 := HL.out _ _ _ f3 G2 (fun k hk => t2.base_le (.inl hk))
  clear t2 G2 f3
  go_wp2_with fail
  refine (c_PickX t3 5 2 true [⟨b1, 16, x1, 0, 0⟩, ⟨b2, 16, x2, 1, 2⟩] (by unfold I64; omega) (by omega) (by kernel_rfl) (by kernel_rfl)).mono ?_
  rintro e w5 ⟨rfl, t4, f4⟩
  have G4 := HL.out _ _ _ f4 G3 (fun k hk => t3.base_le (.inl hk))
  clear t3 G3 f4
  go_wp2_with fail
  refine (c_PickX t4 5 1 true [⟨b1, 16, x1, 0, 1⟩, ⟨b2, 16, x2, 1, 2⟩] (by unfold I64; omega) (by omega) (by kernel_rfl) (by kernel_rfl)).mono ?_
  rintro e w6 ⟨rfl, t5, f5⟩
  have G5 := HL.out _ _ _ f5 G4 (fun k hk => t4.base_le (.inl hk))
  clear t4 G4 f5
  go_wp2_with fail
  -- Wake
  have hr9 := rdI_new (w := w6) [2, 9] (by intro z hz; simp at hz; unfold I64; omega) (by decide)
  have t5' := t5.fr0 ((Fr.refl _ w6).alloc (.cells #[.int .i64 2, .int .i64 9] 3))
  refine (c_WakeX t5' (some ⟨w6.heap.size, 0, none⟩) 2 2 [2, 9] 1 [⟨b1, 16, x1, 0, 1⟩, ⟨b2, 16, x2, 0, 2⟩] hr9 (fun b off _ e => by
    obtain rfl : w6.heap.size = b := congrArg Addr.block (Option.some.inj e)
    exact .inr ⟨trivial, _, Blk.new w6 3 [.int .i64 2, .int .i64 9]⟩) (by kernel_rfl) (by kernel_rfl)).mono ?_
  rintro e w7 ⟨rfl, t6, f6⟩
  have G6 := HL.out _ _ _ f6 (G5.alloc _) (fun k hk => t5'.base_le (.inl hk))
  clear t5 t5' G5 f6 hr9
  go_wp2_with fail
  refine (c_PickX t6 1 2 true [⟨b1, 16, x1, 0, 1⟩, ⟨b2, 16, x2, 2, 3⟩] (by unfold I64; omega) (by omega) (by kernel_rfl) (by kernel_rfl)).mono ?_
  rintro e w8 ⟨rfl, t7, f7⟩
  have G7 := HL.out _ _ _ f7 G6 (fun k hk => t6.base_le (.inl hk))
  clear t6 G6 f7
  go_wp2_with fail
  refine (c_StateX t7 2 2 (by kernel_rfl)).mono ?_
  rintro e w' ⟨rfl, rfl⟩
  go_wp2_with fail
  refine (c_StateX t7 9 (-1) (by kernel_rfl)).mono ?_
  rintro e w' ⟨rfl, rfl⟩
  go_wp2_with fail
  refine (c_StepsX t7 2 3 (by kernel_rfl)).mono ?_
  rintro e w' ⟨rfl, rfl⟩
  go_wp2
  go_ret
  exact ⟨rfl, G7⟩
end Go.Proofs.Ythpghoafjpbdbaa
