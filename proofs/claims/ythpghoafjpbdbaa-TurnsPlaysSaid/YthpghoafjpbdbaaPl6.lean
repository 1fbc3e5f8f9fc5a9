/- The calls of TurnsPlays, both Turns side by side. -/
import Derived.Test.YthpghoafjpbdbaaPl5
namespace Go.Proofs.Ythpghoafjpbdbaa
open Go.RowKit Go.HK
set_option maxRecDepth 100000

section
variable {Z S : Nat → Prop} {w w' : World} {base P R B : Nat} {v vt vs vn : Value} {T T2 : List Tk} {BS : List (Nat → Int)} {N N2 : Int} {LS : List (Option Addr × Nat × Nat)} {TL : List (List Int)} {cs : List Value}
theorem op_t (ht : TW Z w base P v T BS N) (hB : Blk w B 54 cs) (F : Fr S w w') (hS : ∀ k, S k → tsS T k ∨ addS P v k) : Blk w' B 54 cs := by
  refine F.blk hB (fun hs => ?_)
  rcases hS B hs with ⟨i, t, hti, e | e⟩ | e | e
  · exact ne_ty hB (ht.tu.each i t hti) (by decide) e
  · obtain ⟨B', _, hj⟩ := ht.get hti
    rcases hj with ⟨_, a, n, cp, L, h2, _⟩ | ⟨_, c0, _, _, h2, _⟩
    · exact ne_ty hB h2 (by decide) e
    · exact ne_ty hB h2 (by decide) e
  · exact ne_ty hB ht.tu.str (by decide) e
  · obtain ⟨_, h2, _⟩ := own_ty ht.tu.row e
    exact ne_ty hB h2 (by decide) rfl
theorem op_r (hr : IsRf w base R vt vs vn T2 LS TL N2) (hB : Blk w B 54 cs) (F : Fr (rfS R vt vs vn) w w') : Blk w' B 54 cs := by
  refine F.blk hB (fun hs => ?_)
  rcases hs with e | e | e | e
  · exact ne_ty hB hr.str (by decide) e
  · obtain ⟨_, h2, _⟩ := own_ty hr.tl e
    exact ne_ty hB h2 (by decide) rfl
  · obtain ⟨_, h2, _⟩ := own_ty hr.st e
    exact ne_ty hB h2 (by decide) rfl
  · obtain ⟨_, h2, _⟩ := own_ty hr.sn e
    exact ne_ty hB h2 (by decide) rfl
end

/-- the two Turns may stand differently -/
structure Mid (w : World) (P R : Nat) (v vt vs vn : Value) (T T2 : List Tk) (LS : List (Option Addr × Nat × Nat)) (TL : List (List Int)) (N N2 : Int) (B : Nat) (cs : List Value) : Prop where
  tw : TW (fun _ => False) w P P v T (TL.map tellP) N
  rf : IsRf w P R vt vs vn T2 LS TL N2
  op : Blk w B 54 cs

section
variable {w : World} {P R B : Nat} {v vt vs vn : Value} {T T2 : List Tk} {N N2 : Int} {LS : List (Option Addr × Nat × Nat)} {TL : List (List Int)} {cs : List Value}
theorem Mid.fr0 {w' : World} (h : Mid w P R v vt vs vn T T2 LS TL N N2 B cs) (F : Fr (fun _ => False) w w') : Mid w' P R v vt vs vn T T2 LS TL N N2 B cs := ⟨h.tw.fr0 F, h.rf.fr0 F, F.blk h.op (fun h => h)⟩
theorem Mid.t {S : Nat → Prop} {w' : World} {T' : List Tk} {N' : Int} (h : Mid w P R v vt vs vn T T2 LS TL N N2 B cs) (F : Fr S w w') (hS : ∀ k, S k → tsS T k ∨ addS P v k) (ht : TW (fun _ => False) w' P P v T' (TL.map tellP) N') :
    Mid w' P R v vt vs vn T' T2 LS TL N' N2 B cs ∧ Fr (fun k => P ≤ k) w w' :=
  ⟨⟨ht, rf_keep h.tw h.rf F hS, op_t h.tw h.op F hS⟩, F.mono (fun k _ hk => h.tw.base_le (hS k hk))⟩
theorem Mid.r {w' : World} {T' : List Tk} {N' : Int} (h : Mid w P R v vt vs vn T T2 LS TL N N2 B cs) (F : Fr (rfS R vt vs vn) w w') (hr : IsRf w' P R vt vs vn T' LS TL N') :
    Mid w' P R v vt vs vn T T' LS TL N N' B cs ∧ Fr (fun k => P ≤ k) w w' :=
  ⟨⟨tw_keep h.tw h.rf F, hr, op_r h.rf h.op F⟩, F.mono (fun k _ hk => h.rf.base_le hk)⟩

theorem m_pickT (h : Mid w P R v vt vs vn T T2 LS TL N N2 B cs) (p : Int) (hp : I64 p) (hN : N < 900000000) :
    Calls Try.prog 13 #[.pointer (some ⟨P, 0, none⟩), .int .i64 p] w fun e w' => e = .returned (.tuple #[.int .i64 (pickR T p).1, .bool (pickR T p).2]) ∧ Mid w' P R v vt vs vn (pickT (TL.map tellP) T p) T2 LS TL (N + 1) N2 B cs ∧ Fr (fun k => P ≤ k) w w' :=
  (c_PickT P P v T _ N p w h.tw hp hN).mono fun e w' ⟨he, ht, F⟩ => ⟨he, h.t F (fun k hk => .inl hk) ht⟩
theorem m_pickR (h : Mid w P R v vt vs vn T T2 LS TL N N2 B cs) (p : Int) (hp : I64 p) (hN : N2 < 900000000) :
    Calls Try.prog 23 #[.pointer (some ⟨R, 0, none⟩), .int .i64 p] w fun e w' => e = .returned (.tuple #[.int .i64 (pickR T2 p).1, .bool (pickR T2 p).2]) ∧ Mid w' P R v vt vs vn T (pickT (TL.map tellP) T2 p) LS TL N (N2 + 1) B cs ∧ Fr (fun k => P ≤ k) w w' :=
  (r_Pick h.rf p hp hN).mono fun e w' ⟨he, hr, F⟩ => ⟨he, h.r F hr⟩
theorem m_runT (h : Mid w P R v vt vs vn T T2 LS TL N N2 B cs) (fuel : Int) (a : Option Addr) (n cp : Nat) (L : List Int) (hL : RdI .i64 w a n L) (hne : ∀ b off, 0 < n → a = some ⟨b, off, none⟩ → b < P) (hf : -1000000 ≤ fuel ∧ fuel ≤ 1000000) (hN : N + fuel + 1 < 800000000) (hN0 : N + 1 < 800000000) :
    Calls Try.prog 17 #[.pointer (some ⟨P, 0, none⟩), .int .i64 fuel, .slice a n cp] w fun e w' => e = .returned (.int .i64 ((runT (TL.map tellP) L fuel.toNat 0 T).1)) ∧ Mid w' P R v vt vs vn ((runT (TL.map tellP) L fuel.toNat 0 T).2) T2 LS TL (N + fuel.toNat + 1) N2 B cs ∧ Fr (fun k => P ≤ k) w w' :=
  (c_RunT P P v T _ N fuel a n cp L w h.tw hL (fun b off h0 e hk => by have := h.tw.base_le (.inl hk); have := hne b off h0 e; omega) hf hN hN0).mono fun e w' ⟨he, ht, F⟩ => ⟨he, h.t F (fun k hk => .inl hk) ht⟩
theorem m_runR (h : Mid w P R v vt vs vn T T2 LS TL N N2 B cs) (fuel : Int) (a : Option Addr) (n cp : Nat) (L : List Int) (hL : RdI .i64 w a n L) (hne : ∀ b off, 0 < n → a = some ⟨b, off, none⟩ → b < P) (hf : -1000000 ≤ fuel ∧ fuel ≤ 1000000) (hN : N2 + fuel + 1 < 800000000) (hN0 : N2 + 1 < 800000000) :
    Calls Try.prog 22 #[.pointer (some ⟨R, 0, none⟩), .int .i64 fuel, .slice a n cp] w fun e w' => e = .returned (.int .i64 ((runT (TL.map tellP) L fuel.toNat 0 T2).1)) ∧ Mid w' P R v vt vs vn T ((runT (TL.map tellP) L fuel.toNat 0 T2).2) LS TL N (N2 + fuel.toNat + 1) B cs ∧ Fr (fun k => P ≤ k) w w' :=
  (r_Run h.rf fuel a n cp L hL hne hf hN hN0).mono fun e w' ⟨he, hr, F⟩ => ⟨he, h.r F hr⟩
theorem m_wakeR (h : Mid w P R v vt vs vn T T2 LS TL N N2 B cs) (k : Int) (hk : I64 k) :
    Calls Try.prog 20 #[.pointer (some ⟨R, 0, none⟩), .int .i64 k] w fun e w' => e = .returned (.int .i64 (if waits T2 k then 1 else 0)) ∧ Mid w' P R v vt vs vn T (wakeOne T2 k) LS TL N N2 B cs ∧ Fr (fun k => P ≤ k) w w' :=
  (r_Wake h.rf k hk).mono fun e w' ⟨he, hr, F⟩ => ⟨he, h.r F hr⟩
theorem m_wakeT (h : Mid w P R v vt vs vn T T2 LS TL N N2 B cs) (a : Option Addr) (n cp : Nat) (L : List Int) (hL : RdI .i64 w a n L) (hne : ∀ b off, 0 < n → a = some ⟨b, off, none⟩ → b < P) :
    Calls Try.prog 18 #[.pointer (some ⟨P, 0, none⟩), .slice a n cp] w fun e w' => e = .returned (.int .i64 (wakeN T L)) ∧ Mid w' P R v vt vs vn (wakeAll T L) T2 LS TL N N2 B cs ∧ Fr (fun k => P ≤ k) w w' :=
  (c_WakeT P P v T _ N a n cp L w h.tw hL (fun b off h0 e => .inl (hne b off h0 e))).mono fun e w' ⟨he, ht, F⟩ => ⟨he, h.t F (fun k ⟨i, t, hti, e⟩ => .inl ⟨i, t, hti, .inl e.symm⟩) ht⟩
/-- a told task more, on both sides -/
theorem m_addT (h : Mid w P R v vt vs vn T T LS TL N N2 B cs) (a : Option Addr) (n cp : Nat) (L : List Int) (x : Nat) (hx : x = w.heap.size) (hL : RdI .i64 w a n L) (hne : ∀ b off, 0 < n → a = some ⟨b, off, none⟩ → b < P) (hN : 0 ≤ N) (hlen : T.length < 128) :
    Calls Try.prog 11 #[.pointer (some ⟨P, 0, none⟩), .func (.func 16) #[.pointer (some ⟨x, 0, none⟩)] #[]] (w.alloc (.cells #[.slice a n cp, .int .i64 0] 29)) fun e w' => e = .returned (.tuple #[.int .i64 ((T.length : Int) + 1), .int .i64 0]) ∧
      ∃ v' b, TW (fun _ => False) w' P P v' (T ++ [⟨b, 16, x, 0, 0⟩]) ((TL ++ [L]).map tellP) N ∧ IsRf w' P R vt vs vn T LS TL N2 ∧ Blk w' B 54 cs ∧ RdI .i64 w' a n L ∧ Fr (fun k => P ≤ k) w w' := by
  have F0 := (Fr.refl (fun _ => False) w).alloc (.cells #[.slice a n cp, .int .i64 0] 29)
  have h' := h.fr0 F0
  have hPw : P ≤ w.heap.size := by have := h.tw.tu.str.lt; have := h.tw.tu.low.1; omega
  have hj : jobAt (fun _ => False) P (w.alloc (.cells #[.slice a n cp, .int .i64 0] 29)) ⟨0, 16, x, 0, 0⟩ (tellP L) :=
    .inl ⟨rfl, a, n, cp, L, Blk.new_at w _ _ hx, hL.below (F0.below (Nat.le_refl _) (fun _ _ h => h)), fun h0 b off e => .inl (hne b off h0 e), rfl⟩
  refine (c_AddT P P v T _ N 16 x (tellP L) _ h'.tw hN hlen hj (fun i t ht e => by
    obtain ⟨B', _, hj'⟩ := h.tw.get ht
    have := hj'.lt
    omega) (by omega)).mono ?_
  rintro e w' ⟨rfl, v', b, hb, ht, F⟩
  refine ⟨rfl, v', b, ?_, rf_keep h'.tw h'.rf F (fun k hk => .inr hk), op_t h'.tw h'.op F (fun k hk => .inr hk), ⟨hL.hlen, hL.le, hL.rng, fun h0 => ?_⟩, (F0.mono (fun _ _ h => h.elim)).step F (fun k hk => .inl (h'.tw.base_le (.inr hk)))⟩
  · rw [List.map_append]; exact ht
  · obtain ⟨b, off, e, h1, h2⟩ := hL.at_ h0
    refine ⟨b, off, e, Nat.lt_of_lt_of_le h1 (Nat.le_trans F0.size F.size), fun i hi => F.cell (F0.cell (h2 i hi) (fun h => h)) (fun hk => ?_)⟩
    have := h'.tw.base_le (.inr hk)
    have := hne b off h0 e
    simp only at *
    omega
end
end Go.Proofs.Ythpghoafjpbdbaa
