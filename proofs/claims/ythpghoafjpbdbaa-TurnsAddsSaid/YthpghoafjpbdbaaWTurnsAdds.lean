/- TurnsAdds, the walk: a task that a step adds goes on like all others; one that waits goes on once a step of another one has woken it. -/
import Derived.Test.YthpghoafjpbdbaaTurns10
import Derived.Test.YthpghoafjpbdbaaAwake2
import Derived.Laws.AppendOwnNone
namespace Go.Proofs.Ythpghoafjpbdbaa
open Go.RowKit Go.HK
set_option maxRecDepth 100000

/-- what lies beside the Turns: the adder, the one told, its list -/
structure AR (w : World) (base P ac x : Nat) (an made : Int) (n cp g : Nat) (m : Int) (L : List Int) : Prop where
  ad : Blk w ac 31 (adderC P an made x)
  td : Blk w x 29 (toldC (some ⟨g, 0, none⟩) n cp m)
  kk : ∃ cs, Blk w g 3 cs
  rd : RdI .i64 w (some ⟨g, 0, none⟩) n L
  lo : base ≤ ac ∧ base ≤ x

theorem RdI.fr {S : Nat → Prop} {k : IntKind} {w w' : World} {g n : Nat} {L : List Int} (h : RdI k w (some ⟨g, 0, none⟩) n L) (F : Fr S w w') (hg : ¬ S g) : RdI k w' (some ⟨g, 0, none⟩) n L :=
  ⟨h.hlen, h.le, h.rng, fun h0 => by
    obtain ⟨b, off, e, h1, h2⟩ := h.at_ h0
    have e1 : g = b := congrArg Addr.block (Option.some.inj e)
    exact ⟨b, off, e, Nat.lt_of_lt_of_le h1 F.size, fun i hi => F.cell (h2 i hi) (e1 ▸ hg)⟩⟩
theorem AR.fr {S : Nat → Prop} {w w' : World} {base P ac x : Nat} {an made : Int} {n cp g : Nat} {m : Int} {L : List Int} (h : AR w base P ac x an made n cp g m L) (F : Fr S w w') (h1 : ¬ S ac) (h2 : ¬ S x) (h3 : ¬ S g) : AR w' base P ac x an made n cp g m L :=
  ⟨F.blk h.ad h1, F.blk h.td h2, let ⟨cs, h⟩ := h.kk; ⟨cs, F.blk h h3⟩, h.rd.fr F h3, h.lo⟩

theorem AR.tk {w : World} {base P ac x : Nat} {an made : Int} {n cp g : Nat} {m : Int} {L : List Int} (h : AR w base P ac x an made n cp g m L) {b : Nat} {cs : List Value} (hb : Blk w b 66 cs) : ac ≠ b ∧ x ≠ b ∧ g ≠ b :=
  ⟨ne_ty h.ad hb (by decide), ne_ty h.td hb (by decide), let ⟨_, h⟩ := h.kk; ne_ty h hb (by decide)⟩
theorem AR.xg {w : World} {base P ac x : Nat} {an made : Int} {n cp g : Nat} {m : Int} {L : List Int} (h : AR w base P ac x an made n cp g m L) : x ≠ ac ∧ g ≠ ac ∧ g ≠ x :=
  ⟨ne_ty h.td h.ad (by decide), let ⟨_, k⟩ := h.kk; ne_ty k h.ad (by decide), let ⟨_, k⟩ := h.kk; ne_ty k h.td (by decide)⟩
theorem AR.pv {w : World} {base P ac x : Nat} {an made : Int} {n cp g : Nat} {m : Int} {L : List Int} (h : AR w base P ac x an made n cp g m L) {v : Value} {T : List Tk} (ht : IsTurns w base P v T) : ¬ addS P v ac ∧ ¬ addS P v x ∧ ¬ addS P v g := by
  obtain ⟨cs, hk⟩ := h.kk
  refine ⟨?_, ?_, ?_⟩
  · rintro (e | e)
    · exact ne_ty h.ad ht.str (by decide) e
    · obtain ⟨_, h1, _⟩ := own_ty ht.row e; exact ne_ty h.ad h1 (by decide) rfl
  · rintro (e | e)
    · exact ne_ty h.td ht.str (by decide) e
    · obtain ⟨_, h1, _⟩ := own_ty ht.row e; exact ne_ty h.td h1 (by decide) rfl
  · rintro (e | e)
    · exact ne_ty hk ht.str (by decide) e
    · obtain ⟨_, h1, _⟩ := own_ty ht.row e; exact ne_ty hk h1 (by decide) rfl

theorem rdy_ne {T : List Tk} {x : Int} {l : List Int} (h : rdy T = x :: l) : rdy T ≠ [] := by rw [h]; exact List.cons_ne_nil _ _
theorem pick_one (base P : Nat) (v : Value) (b1 ac x : Nat) (made : Int) (n cp g : Nat) (L : List Int) (w : World) (h : IsTurns w base P v [⟨b1, 12, ac, 0, 0⟩]) (hr : AR w base P ac x 0 made n cp g 0 L) :
    Calls Try.prog 13 #[.pointer (some ⟨P, 0, none⟩), .int .i64 0] w fun e w' => e = .returned (.tuple #[.int .i64 1, .bool true]) ∧
      ∃ v' b2, IsTurns w' base P v' [⟨b1, 12, ac, 0, 1⟩, ⟨b2, 16, x, 0, 0⟩] ∧ AR w' base P ac x 1 2 n cp g 0 L ∧ Fr (fun k => base ≤ k) w w' := by
  have hb := h.each 0 _ rfl
  obtain ⟨t1, t2, t3⟩ := hr.tk hb
  refine (c_Pick base P v _ 0 w h (by unfold I64; omega) 0 _ rfl (rdy_ne rfl) (by kernel_rfl) ⟨by simp only; omega, by simp only; omega⟩ ent_adder
    (fun w2 s v' T' => s = 0 ∧ (∃ b2, T' = [⟨b1, 12, ac, 0, 1⟩, ⟨b2, 16, x, 0, 0⟩]) ∧ AR w2 base P ac x 1 2 n cp g 0 L ∧ Fr (fun k => base ≤ k) w w2) ?_).mono ?_
  · intro w1 h1 f1
    have hr1 := hr.fr f1 t1 t2 t3
    refine (adder_one base P v _ ac x made w1 h1 (by simp) hr1.ad).mono ?_
    rintro e w2 ⟨rfl, v', b2, _, h2, h3, f2⟩
    obtain ⟨p1, p2, p3⟩ := hr1.pv h1
    obtain ⟨q1, q2, q3⟩ := hr1.xg
    have nx : ¬ (x = ac ∨ addS P v x) := fun e => e.elim q1 p2
    have ng : ¬ (g = ac ∨ addS P v g) := fun e => e.elim q2 p3
    refine ⟨0, v', _, rfl, h2, rfl, rfl, ⟨b2, rfl⟩, ⟨h3, f2.blk hr1.td nx, let ⟨cs, k⟩ := hr1.kk; ⟨cs, f2.blk k ng⟩, hr1.rd.fr f2 ng, hr1.lo⟩, ?_⟩
    refine (f1.mono (fun k _ hk => ?_)).step f2 (fun k hk => .inl ?_)
    · subst hk; exact h.low.2 0 _ rfl
    · rcases hk with rfl | rfl | hk
      · exact hr.lo.1
      · exact h.low.1
      · obtain ⟨_, _, h5⟩ := own_ty h1.row hk; exact h5
  · rintro e w' ⟨rfl, w2, s, v', T', ⟨rfl, ⟨b2, rfl⟩, h3, f3⟩, h4, f4⟩
    have hb2 : base ≤ b1 := h.low.2 0 _ rfl
    exact ⟨rfl, v', b2, h4, h3.fr f4 t1 t2 t3, f3.step f4 (fun k hk => .inl (by subst hk; exact hb2))⟩

theorem pick_two (base P : Nat) (v : Value) (b1 b2 ac x : Nat) (n cp g : Nat) (L : List Int) (w : World) (h : IsTurns w base P v [⟨b1, 12, ac, 0, 1⟩, ⟨b2, 16, x, 0, 0⟩]) (hr : AR w base P ac x 1 2 n cp g 0 (1 :: L)) :
    Calls Try.prog 13 #[.pointer (some ⟨P, 0, none⟩), .int .i64 1] w fun e w' => e = .returned (.tuple #[.int .i64 2, .bool true]) ∧
      IsTurns w' base P v [⟨b1, 12, ac, 0, 1⟩, ⟨b2, 16, x, 1, 1⟩] ∧ AR w' base P ac x 1 2 n cp g 1 (1 :: L) ∧ Fr (fun k => base ≤ k) w w' := by
  have hb := h.each 1 _ rfl
  obtain ⟨t1, t2, t3⟩ := hr.tk hb
  obtain ⟨q1, q2, q3⟩ := hr.xg
  refine (c_PickTold base P v _ 1 w h (by unfold I64; omega) 1 _ rfl rfl (rdy_ne rfl) (by kernel_rfl) ⟨by simp only; omega, by simp only; omega⟩ (some ⟨g, 0, none⟩) n cp (1 :: L) 0 hr.td hr.rd (fun _ b off e => ?_) (by decide)).mono ?_
  · obtain rfl : g = b := congrArg Addr.block (Option.some.inj e)
    exact ⟨q3, t3⟩
  · rintro e w' ⟨rfl, h1, h2, f⟩
    have e1 : tellP (1 :: L) 0 = 1 := by unfold tellP; simp
    rw [e1] at h1
    have na : ¬ stS ⟨b2, 16, x, 0, 0⟩ ac := fun e => e.elim t1 (fun e => q1 e.symm)
    have ng : ¬ stS ⟨b2, 16, x, 0, 0⟩ g := fun e => e.elim t3 q3
    refine ⟨rfl, h1, ⟨f.blk hr.ad na, h2, let ⟨cs, k⟩ := hr.kk; ⟨cs, f.blk k ng⟩, hr.rd.fr f ng, hr.lo⟩, f.mono (fun k _ hk => ?_)⟩
    rcases hk with rfl | rfl
    · exact h.low.2 1 _ rfl
    · exact hr.lo.2

theorem pick_three (base P : Nat) (v : Value) (b1 b2 ac x : Nat) (n cp g : Nat) (L : List Int) (w : World) (h : IsTurns w base P v [⟨b1, 12, ac, 0, 1⟩, ⟨b2, 16, x, 1, 1⟩]) (hr : AR w base P ac x 1 2 n cp g 1 L) :
    Calls Try.prog 13 #[.pointer (some ⟨P, 0, none⟩), .int .i64 0] w fun e w' => e = .returned (.tuple #[.int .i64 1, .bool true]) ∧
      IsTurns w' base P v [⟨b1, 12, ac, 0, 2⟩, ⟨b2, 16, x, 1, 1⟩] ∧ AR w' base P ac x 2 2 n cp g 1 L ∧ Fr (fun k => base ≤ k) w w' := by
  have hb := h.each 0 _ rfl
  obtain ⟨t1, t2, t3⟩ := hr.tk hb
  obtain ⟨q1, q2, q3⟩ := hr.xg
  refine (c_Pick base P v _ 0 w h (by unfold I64; omega) 0 _ rfl (rdy_ne rfl) (by kernel_rfl) ⟨by simp only; omega, by simp only; omega⟩ ent_adder
    (fun w2 s v' T' => s = 0 ∧ v' = v ∧ T' = [⟨b1, 12, ac, 0, 2⟩, ⟨b2, 16, x, 1, 1⟩] ∧ AR w2 base P ac x 2 2 n cp g 1 L ∧ Fr (fun k => base ≤ k) w w2) ?_).mono ?_
  · intro w1 h1 f1
    have hr1 := hr.fr f1 t1 t2 t3
    refine (adder_two P ac x 2 w1 hr1.ad).mono ?_
    rintro e w2 ⟨rfl, h3, f2⟩
    have h2 := h1.fr f2 (fun e => ne_ty hr1.ad h1.str (by decide) e.symm) (fun g hg e => by
      obtain ⟨_, h5, _⟩ := own_ty h1.row hg; exact ne_ty hr1.ad h5 (by decide) e.symm) (fun i t ht e => ne_ty hr1.ad (h1.each i t ht) (by decide) e.symm)
    refine ⟨0, v, _, rfl, h2, rfl, rfl, rfl, rfl, ⟨h3, f2.blk hr1.td q1, let ⟨cs, k⟩ := hr1.kk; ⟨cs, f2.blk k q2⟩, hr1.rd.fr f2 q2, hr1.lo⟩, ?_⟩
    refine (f1.mono (fun k _ hk => ?_)).step f2 (fun k hk => .inl ?_)
    · subst hk; exact h.low.2 0 _ rfl
    · subst hk; exact hr.lo.1
  · rintro e w' ⟨rfl, w2, s, v', T', ⟨rfl, rfl, rfl, h3, f3⟩, h4, f4⟩
    have hb2 : base ≤ b1 := h.low.2 0 _ rfl
    exact ⟨rfl, h4, h3.fr f4 t1 t2 t3, f3.step f4 (fun k hk => .inl (by subst hk; exact hb2))⟩

theorem pick_four (base P : Nat) (v : Value) (b1 b2 ac x : Nat) (n cp g : Nat) (L : List Int) (w : World) (h : IsTurns w base P v [⟨b1, 12, ac, 0, 2⟩, ⟨b2, 16, x, 1, 1⟩]) (hr : AR w base P ac x 2 2 n cp g 1 L) :
    Calls Try.prog 13 #[.pointer (some ⟨P, 0, none⟩), .int .i64 0] w fun e w' => e = .returned (.tuple #[.int .i64 1, .bool true]) ∧
      IsTurns w' base P v [⟨b1, 12, ac, 2, 3⟩, ⟨b2, 16, x, 0, 1⟩] ∧ AR w' base P ac x 3 2 n cp g 1 L ∧ Fr (fun k => base ≤ k) w w' := by
  have hb := h.each 0 _ rfl
  obtain ⟨t1, t2, t3⟩ := hr.tk hb
  obtain ⟨q1, q2, q3⟩ := hr.xg
  refine (c_Pick base P v _ 0 w h (by unfold I64; omega) 0 _ rfl (rdy_ne rfl) (by kernel_rfl) ⟨by simp only; omega, by simp only; omega⟩ ent_adder
    (fun w2 s v' T' => s = 2 ∧ v' = v ∧ T' = [⟨b1, 12, ac, 0, 3⟩, ⟨b2, 16, x, 0, 1⟩] ∧ AR w2 base P ac x 3 2 n cp g 1 L ∧ Fr (fun k => base ≤ k) w w2) ?_).mono ?_
  · intro w1 h1 f1
    have hr1 := hr.fr f1 t1 t2 t3
    refine (adder_three base P v _ ac x 2 w1 h1 (by unfold I64; omega) hr1.ad).mono ?_
    rintro e w2 ⟨rfl, h2, h3, f2⟩
    have nb : ∀ k, tkS (List.set [⟨b1, 12, ac, 0, 2⟩, ⟨b2, 16, x, 1, 1⟩] 0 (Tk.bump ⟨b1, 12, ac, 0, 2⟩)) k → k ≠ x ∧ k ≠ g ∧ base ≤ k := fun k ⟨i, t, ht, e⟩ => by
      obtain ⟨_, u2, u3⟩ := hr1.tk (h1.each i t ht)
      exact ⟨fun e2 => u2 (e2.symm.trans e.symm), fun e2 => u3 (e2.symm.trans e.symm), e ▸ h1.low.2 i t ht⟩
    have nx : ¬ (x = ac ∨ _) := fun e => e.elim q1 (fun e => (nb x e).1 rfl)
    have ng : ¬ (g = ac ∨ _) := fun e => e.elim q2 (fun e => (nb g e).2.1 rfl)
    refine ⟨2, v, _, rfl, h2, rfl, rfl, rfl, rfl, ⟨h3, f2.blk hr1.td nx, let ⟨cs, k⟩ := hr1.kk; ⟨cs, f2.blk k ng⟩, hr1.rd.fr f2 ng, hr1.lo⟩, ?_⟩
    refine (f1.mono (fun k _ hk => ?_)).step f2 (fun k hk => .inl ?_)
    · subst hk; exact h.low.2 0 _ rfl
    · rcases hk with rfl | hk
      · exact hr.lo.1
      · exact (nb k hk).2.2
  · rintro e w' ⟨rfl, w2, s, v', T', ⟨rfl, rfl, rfl, h3, f3⟩, h4, f4⟩
    have hb2 : base ≤ b1 := h.low.2 0 _ rfl
    exact ⟨rfl, h4, h3.fr f4 t1 t2 t3, f3.step f4 (fun k hk => .inl (by subst hk; exact hb2))⟩

theorem c_StateI {base P : Nat} {v : Value} {T : List Tk} {w : World} (h : IsTurns w base P v T) (k r : Int) (e1 : stT T k = r) :
    Calls Try.prog 14 #[.pointer (some ⟨P, 0, none⟩), .int .i64 k] w fun e w' => e = .returned (.int .i64 r) ∧ w = w' := by
  have h1 := c_State base P v T k w h
  rw [e1] at h1
  exact h1.mono fun e w' ⟨h2, h3⟩ => ⟨h2, h3.symm⟩
theorem c_StepsI {base P : Nat} {v : Value} {T : List Tk} {w : World} (h : IsTurns w base P v T) (k r : Int) (e1 : nT T k = r) :
    Calls Try.prog 15 #[.pointer (some ⟨P, 0, none⟩), .int .i64 k] w fun e w' => e = .returned (.int .i64 r) ∧ w = w' := by
  have h1 := c_Steps base P v T k w h
  rw [e1] at h1
  exact h1.mono fun e w' ⟨h2, h3⟩ => ⟨h2, h3.symm⟩

theorem walk_TurnsAdds (a0 : Option Addr) (n0 c0 : Nat) (L0 : List Int) (w : World) (w0 : RdI .i64 w a0 n0 L0 ∧ n0 * 8 ≤ 140737488351232 ∧ (a0 = none → n0 = 0 ∧ c0 = 0)) :
    Calls Try.prog 3 #[.slice a0 n0 c0] w fun e w' => e = .returned (.bool true) ∧ Below w.heap.size w w' := by
  obtain ⟨w0, hbig, hnone⟩ := w0
  obtain ⟨i0, hi, hz0, hz1, hz2⟩ := info_parts info_int
  have W0 := Lib.hid w0
  have hll := w0.hlen
  have hrg := w0.rng rfl
  have HLL := Lib.hid hll
  have HRG := Lib.hid hrg
  have HN := Lib.hid hnone
  clear w0 hll hnone hrg
  go_enter Try.func3, Try.ntmps3
  go_wp2_with fail
  refine (awake_true _).mono ?_
  rintro e wa ⟨rfl, f0⟩
  go_wp2_with fail
  refine (c_New wa).mono ?_
  rintro e w1 ⟨rfl, h1, f1⟩
  obtain ⟨P, hP⟩ : ∃ P, P = wa.heap.size := ⟨_, rfl⟩
  rw [← hP] at h1 ⊢
  have hbP : w.heap.size ≤ P := by rw [hP]; exact f0.size
  have G1 := f0.trans f1
  have hs1 : P ≤ w1.heap.size := by have := h1.str.lt; omega
  have H1 := Lib.hid h1
  clear hP f0 f1 h1
  have hown := World.ownsRow_nil w1 P 3 1
  go_wp2_with (at_builtin; refine wpList_append_own _ rfl _ _ 22 rfl P 3 i0 (.int .i64 0) 1 8 Try.underlying22 hi hz0 hz1 hz2 rfl (by decide) _ _ _ rfl (hown.alloc _) ⟨w1.heap.size, 0, none⟩ 1 1 [.int .i64 1] rfl rfl ?c1 ?c2 ?c3 ?c4 ?c5 ?_)
  case c1 =>
    intro i u hu
    match i, hu with
    | 0, hu => simp at hu; subst hu; simp [Addr.add]
  case c2 => first | rfl | (intro u hu; simp at hu; subst hu; rfl)
  case c3 => unfold maxLen; omega
  case c4 => omega
  case c5 => first | omega | (simp; omega)
  intro v3 w3 hown3 hgrow3 _
  have F3 : Fr (fun _ => False) w1 w3 := ((Fr.refl _ w1).alloc _).grown hgrow3 (fun k hk => by simp [Value.ownBlock] at hk)
  have G3 := G1.trans F3
  have h3 := H1.out.fr F3 (fun h => h) (fun _ _ h => h) (fun _ _ _ h => h)
  have H3 := Lib.hid h3
  have hs3 : P ≤ w3.heap.size := Nat.le_trans hs1 F3.size
  obtain ⟨g3, cap3, cs3, rfl, hg3, _, hb3, _⟩ := owns_blk hown3 (by omega)
  clear h3 G1 H1 hgrow3 hown F3 hs1
  replace hown3 : w3.ownsRow P 3 1 (.slice (some ⟨g3, 0, none⟩) 1 cap3) 1 [.int .i64 1] := hown3
  have hdone : ∀ (v4 : Value) (w4 : World), w4.ownsRow P 3 1 v4 (1 + n0) (.int .i64 1 :: L0.map (.int .i64)) → Fr (fun _ => False) w3 w4 ∨ Fr (fun k => k = g3) w3 w4 →
      ∃ g cap, v4 = .slice (some ⟨g, 0, none⟩) (1 + n0) cap ∧ (∃ cs, Blk w4 g 3 cs) ∧ RdI .i64 w4 (some ⟨g, 0, none⟩) (1 + n0) (1 :: L0) ∧ IsTurns w4 P P (.slice none 0 0) [] ∧ Fr (fun k => P ≤ k) w w4 ∧ P ≤ w4.heap.size := fun v4 w4 hown4 hF => by
    obtain ⟨g, cap, cs, rfl, hg, _, hb, htk⟩ := owns_blk hown4 (by omega)
    have F4 : Fr (fun k => k = g3) w3 w4 := hF.elim (fun h => h.mono (fun _ _ h => h.elim)) id
    have hm : ∀ cs', Blk w3 P 62 cs' → P ≠ g3 := fun cs' h => ne_ty h hb3 (by decide)
    refine ⟨g, cap, rfl, ⟨cs, hb⟩, ⟨by have := HLL.out; simp; omega, by unfold maxLen; omega, fun _ z hz => ?_, fun _ => ⟨g, 0, rfl, hb.lt, fun i hi => ?_⟩⟩, H3.out.fr F4 (hm _ H3.out.str) (fun g hg => by simp [Value.ownBlock] at hg) (fun i t ht => by simp at ht), ?_, Nat.le_trans hs3 F4.size⟩
    · rcases List.mem_cons.1 hz with rfl | hz
      · unfold I64; omega
      · exact HRG.out z hz
    · rw [Nat.zero_add, hb.cell]
      have e1 : cs[i]? = (cs.take (1 + n0))[i]? := by rw [List.getElem?_take, if_pos hi]
      rw [e1, htk]
      cases i with
      | zero => rfl
      | succ j =>
        have hj : j < L0.length := by have := HLL.out; omega
        simp [List.getD_eq_getElem?_getD, List.getElem?_eq_getElem hj]
    · exact (G3.mono (fun _ _ h => h.elim)).step F4 (fun k hk => .inl (by subst hk; exact hg3))
  have HD := Lib.hid hdone
  clear hdone
  cases a0 with
  | none =>
    obtain ⟨rfl, rfl⟩ := HN.out rfl
    have hL : L0 = [] := List.eq_nil_of_length_eq_zero HLL.out
    obtain ⟨g, cap, e4, hkk, hrd, h4, G4, hs4⟩ := HD.out _ _ (by rw [hL]; exact hown3) (.inl (Fr.refl _ w3))
    have e5 : g3 = g ∧ cap3 = cap := by
      injection e4 with e5 _ e6
      exact ⟨congrArg Addr.block (Option.some.inj e5), e6⟩
    obtain ⟨rfl, rfl⟩ := e5
    go_wp2_with (at_builtin; refine wpList_append_own_none rfl _ _ 22 rfl P 3 i0 1 Try.underlying22 hi _ _ _ rfl hown3 rfl ?_)

    have F5 : Fr (fun _ => False) w3 ((w3.alloc (.cells #[.slice (some ⟨g3, 0, none⟩) 1 cap3, .int .i64 0] 29)).alloc (.cells #[.pointer (some ⟨P, 0, none⟩), .int .i64 0, .int .i64 0, .pointer (some ⟨w3.heap.size, 0, none⟩)] 31)) := ((Fr.refl _ _).alloc _).alloc _
    have hAR : AR ((w3.alloc (.cells #[.slice (some ⟨g3, 0, none⟩) 1 cap3, .int .i64 0] 29)).alloc (.cells #[.pointer (some ⟨P, 0, none⟩), .int .i64 0, .int .i64 0, .pointer (some ⟨w3.heap.size, 0, none⟩)] 31)) P P (w3.heap.size + 1) w3.heap.size 0 0 1 cap3 g3 0 (1 :: L0) :=
      ⟨Blk.new_at _ _ _ (by simp), (Blk.new _ _ _).alloc _, let ⟨cs, h⟩ := hkk; ⟨cs, F5.blk h (fun h => h)⟩, hrd.fr F5 (fun h => h), ⟨by omega, hs4⟩⟩
    have h5 := h4.fr F5 (fun h => h) (fun _ _ h => h) (fun _ _ _ h => h)
    have G5 := G4.step F5 (fun _ h => h.elim)
    clear F5 hkk hrd h4 G4
    have HAR := Lib.hid hAR
    have H5 := Lib.hid h5
    have HG := Lib.hid G5
    clear hAR h5 G5
    refine (c_Add P P _ [] 12 (w3.heap.size + 1) _ H5.out (by simp)).mono ?_
    rintro e w5 ⟨rfl, v5, b1, _, h5, f5⟩
    obtain ⟨p1, p2, p3⟩ := HAR.out.pv H5.out
    have r5 := HAR.out.fr f5 p1 p2 p3
    have G5 := HG.out.step f5 (fun k hk => .inl (by
      rcases hk with rfl | hk
      · exact H5.out.low.1
      · obtain ⟨_, _, h6⟩ := own_ty H5.out.row hk; exact h6))
    replace h5 : IsTurns w5 P P v5 [⟨b1, 12, w3.heap.size + 1, 0, 0⟩] := h5
    clear p1 p2 p3 f5 HG H5 HAR
    generalize w3.heap.size + 1 = ac at *
    generalize w3.heap.size = x at *
    go_wp2_with fail
    refine (pick_one P P v5 b1 ac x 0 _ cap3 g3 (1 :: L0) w5 h5 r5).mono ?_
    rintro e w6 ⟨rfl, v6, b2, h6, r6, f6⟩
    have G6 := G5.trans f6
    clear h5 r5 f6 G5
    go_wp2_with fail
    refine (pick_two P P v6 b1 b2 ac x _ cap3 g3 L0 w6 h6 r6).mono ?_
    rintro e w7 ⟨rfl, h7, r7, f7⟩
    have G7 := G6.trans f7
    clear h6 r6 f7 G6
    go_wp2_with fail
    refine (c_StateI h7 2 1 (by kernel_rfl)).mono ?_
    rintro e w' ⟨rfl, rfl⟩
    go_wp2_with fail
    refine (pick_three P P v6 b1 b2 ac x _ cap3 g3 (1 :: L0) w7 h7 r7).mono ?_
    rintro e w8 ⟨rfl, h8, r8, f8⟩
    have G8 := G7.trans f8
    clear h7 r7 f8 G7
    go_wp2_with fail
    refine (pick_four P P v6 b1 b2 ac x _ cap3 g3 (1 :: L0) w8 h8 r8).mono ?_
    rintro e w9 ⟨rfl, h9, r9, f9⟩
    have G9 := G8.trans f9
    have ha : w9.cell? ⟨ac, 2, none⟩ = some (.int .i64 2) := r9.ad.cell 2
    clear h8 r8 f9 G8 r9
    go_wp2_with fail
    refine (c_StateI h9 2 0 (by kernel_rfl)).mono ?_
    rintro e w' ⟨rfl, rfl⟩
    go_wp2_with fail
    refine (c_StateI h9 1 2 (by kernel_rfl)).mono ?_
    rintro e w' ⟨rfl, rfl⟩
    go_wp2_with fail
    refine (c_StepsI h9 2 1 (by kernel_rfl)).mono ?_
    rintro e w' ⟨rfl, rfl⟩
    go_wp2
    go_ret
    exact ⟨rfl, G9.below (Nat.le_refl _) (fun k hk h => by omega)⟩
  | some ad =>
    have hsrc : ∀ (j : Nat) (u : Value), (L0.map (Value.int .i64))[j]? = some u → w3.cell? (ad.add j) = some u := fun j u hu => by
      have hj : j < L0.length := by
        rcases Nat.lt_or_ge j L0.length with h | h
        · exact h
        · rw [List.getElem?_eq_none (by simpa using h)] at hu; cases hu
      obtain ⟨b, off, e, h5, h6⟩ := W0.out.at_ (by have := HLL.out; omega)
      cases e
      have h7 := G3.cell (h6 j (by have := HLL.out; omega)) (fun h => h)
      rw [Addr.add_lit, h7, ← hu]
      simp [List.getD_eq_getElem?_getD, List.getElem?_eq_getElem hj]
    go_wp2_with (at_builtin; refine wpList_append_own _ rfl _ _ 22 rfl P 3 i0 (.int .i64 0) 1 8 Try.underlying22 hi hz0 hz1 hz2 rfl (by decide) _ _ _ rfl hown3 ad n0 c0 (L0.map (.int .i64)) rfl ?d0 ?d1 ?d2 ?d3 ?d4 ?d5 ?_)
    case d0 => simp [HLL.out]
    case d1 => exact hsrc
    case d2 => intro u hu; obtain ⟨z, _, rfl⟩ := List.mem_map.1 hu; rfl
    case d3 => unfold maxLen; omega
    case d4 => omega
    case d5 => omega
    intro v4 w4 hown4 hgrow4 _
    obtain ⟨g, cap, rfl, hkk, hrd, h4, G4, hs4⟩ := HD.out v4 w4 hown4 (.inr ((Fr.refl _ w3).grown hgrow4 (fun k hk => .inl (by simp [Value.ownBlock] at hk; exact hk.symm))))
    clear hown4 hgrow4 hsrc
    go_wp2_with fail

    have F5 : Fr (fun _ => False) w4 ((w4.alloc (.cells #[.slice (some ⟨g, 0, none⟩) (1 + n0) cap, .int .i64 0] 29)).alloc (.cells #[.pointer (some ⟨P, 0, none⟩), .int .i64 0, .int .i64 0, .pointer (some ⟨w4.heap.size, 0, none⟩)] 31)) := ((Fr.refl _ _).alloc _).alloc _
    have hAR : AR ((w4.alloc (.cells #[.slice (some ⟨g, 0, none⟩) (1 + n0) cap, .int .i64 0] 29)).alloc (.cells #[.pointer (some ⟨P, 0, none⟩), .int .i64 0, .int .i64 0, .pointer (some ⟨w4.heap.size, 0, none⟩)] 31)) P P (w4.heap.size + 1) w4.heap.size 0 0 (1 + n0) cap g 0 (1 :: L0) :=
      ⟨Blk.new_at _ _ _ (by simp), (Blk.new _ _ _).alloc _, let ⟨cs, h⟩ := hkk; ⟨cs, F5.blk h (fun h => h)⟩, hrd.fr F5 (fun h => h), ⟨by omega, hs4⟩⟩
    have h5 := h4.fr F5 (fun h => h) (fun _ _ h => h) (fun _ _ _ h => h)
    have G5 := G4.step F5 (fun _ h => h.elim)
    clear F5 hkk hrd h4 G4
    have HAR := Lib.hid hAR
    have H5 := Lib.hid h5
    have HG := Lib.hid G5
    clear hAR h5 G5
    refine (c_Add P P _ [] 12 (w4.heap.size + 1) _ H5.out (by simp)).mono ?_
    rintro e w5 ⟨rfl, v5, b1, _, h5, f5⟩
    obtain ⟨p1, p2, p3⟩ := HAR.out.pv H5.out
    have r5 := HAR.out.fr f5 p1 p2 p3
    have G5 := HG.out.step f5 (fun k hk => .inl (by
      rcases hk with rfl | hk
      · exact H5.out.low.1
      · obtain ⟨_, _, h6⟩ := own_ty H5.out.row hk; exact h6))
    replace h5 : IsTurns w5 P P v5 [⟨b1, 12, w4.heap.size + 1, 0, 0⟩] := h5
    clear p1 p2 p3 f5 HG H5 HAR
    generalize w4.heap.size + 1 = ac at *
    generalize w4.heap.size = x at *
    go_wp2_with fail
    refine (pick_one P P v5 b1 ac x 0 _ cap g (1 :: L0) w5 h5 r5).mono ?_
    rintro e w6 ⟨rfl, v6, b2, h6, r6, f6⟩
    have G6 := G5.trans f6
    clear h5 r5 f6 G5
    go_wp2_with fail
    refine (pick_two P P v6 b1 b2 ac x _ cap g L0 w6 h6 r6).mono ?_
    rintro e w7 ⟨rfl, h7, r7, f7⟩
    have G7 := G6.trans f7
    clear h6 r6 f7 G6
    go_wp2_with fail
    refine (c_StateI h7 2 1 (by kernel_rfl)).mono ?_
    rintro e w' ⟨rfl, rfl⟩
    go_wp2_with fail
    refine (pick_three P P v6 b1 b2 ac x _ cap g (1 :: L0) w7 h7 r7).mono ?_
    rintro e w8 ⟨rfl, h8, r8, f8⟩
    have G8 := G7.trans f8
    clear h7 r7 f8 G7
    go_wp2_with fail
    refine (pick_four P P v6 b1 b2 ac x _ cap g (1 :: L0) w8 h8 r8).mono ?_
    rintro e w9 ⟨rfl, h9, r9, f9⟩
    have G9 := G8.trans f9
    have ha : w9.cell? ⟨ac, 2, none⟩ = some (.int .i64 2) := r9.ad.cell 2
    clear h8 r8 f9 G8 r9
    go_wp2_with fail
    refine (c_StateI h9 2 0 (by kernel_rfl)).mono ?_
    rintro e w' ⟨rfl, rfl⟩
    go_wp2_with fail
    refine (c_StateI h9 1 2 (by kernel_rfl)).mono ?_
    rintro e w' ⟨rfl, rfl⟩
    go_wp2_with fail
    refine (c_StepsI h9 2 1 (by kernel_rfl)).mono ?_
    rintro e w' ⟨rfl, rfl⟩
    go_wp2
    go_ret
    exact ⟨rfl, G9.below (Nat.le_refl _) (fun k hk h => by omega)⟩
end Go.Proofs.Ythpghoafjpbdbaa
