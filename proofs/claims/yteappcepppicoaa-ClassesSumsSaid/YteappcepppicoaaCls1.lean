/- The contracts of package classes (layer 3) and of ballastref03: which classes may be; a class found. -/
import Derived.Test.YteappcepppicoaaProg
import Derived.Test.YteappcepppicoaaOpen
import Derived.WalkSpells
import Derived.WalkLawsBesides
import Derived.KernelRfl
import Derived.RegionTactic
import Derived.Lib.Hide
import Derived.Deep.DeepMust
import Derived.Deep.RegionWith
namespace Go.Proofs.Yteappcepppicoaa
open Go.RowKit Go.HK
set_option maxRecDepth 100000

theorem mkFunc (fn : Fn) (first cap : Array Value) (w : World) : (Instr.makeFunc fn first cap).run Try.prog w = .ok (.func fn first cap) w := rfl

/-! ### plain words -/
structure Cls where
  r : Int
  w : Int
  a : Int
def zCls : Cls := ⟨0, 0, 0⟩
def Cls.val (c : Cls) : Value := .agg #[.int .i64 c.r, .int .i64 c.w, .int .i64 c.a]
def Cls.cells (c : Cls) : List Value := [.int .i64 c.r, .int .i64 c.w, .int .i64 c.a]
def Cls.May (c : Cls) : Prop := ((c.a = 1 ∨ c.a = 2) ∧ c.r = 0 ∧ c.w = 0) ∨ (c.a = 0 ∧ 0 ≤ c.r ∧ 0 ≤ c.w ∧ c.r ≤ 64 ∧ c.w ≤ 64 - c.r)
instance (c : Cls) : Decidable c.May := by unfold Cls.May; infer_instance
def mayB (c : Cls) : Bool := decide c.May
theorem mayB_t {c : Cls} (h : c.May) : mayB c = true := decide_eq_true h
theorem mayB_f {c : Cls} (h : ¬ c.May) : mayB c = false := decide_eq_false h
theorem May_mk (r w a : Int) : Cls.May ⟨r, w, a⟩ ↔ (((a = 1 ∨ a = 2) ∧ r = 0 ∧ w = 0) ∨ (a = 0 ∧ 0 ≤ r ∧ 0 ≤ w ∧ r ≤ 64 ∧ w ≤ 64 - r)) := Iff.rfl
theorem lt_of_get {α : Type} {l : List α} {i : Nat} {x : α} (h : l[i]? = some x) : i < l.length := by
  rcases Nat.lt_or_ge i l.length with h' | h'
  · exact h'
  · rw [List.getElem?_eq_none h'] at h; cases h

def Qcl (l : List Value) (c : Cls) : Prop := l = c.cells ∧ I64 c.r ∧ I64 c.w ∧ I64 c.a

theorem open_cls {H : Type} {enc : TypeId × Value → H} {W : World} {base : Nat} {held : Bool} {n : Nat} {l : List Value} {y : DataW H × List MemPlace}
    (h : DataW.trod enc Try.prog W base (fun _ => true) held n 37 l = some y) : ∃ z : Cls, Qcl l z := by
  obtain ⟨m, hl, hf⟩ := trod_fields Try.underlying37 h
  obtain ⟨c0, c1, c2, rfl⟩ := list3 (hl.trans (show Try.prog.cellsOf 37 = 3 by kernel_rfl))
  obtain ⟨y0, t0⟩ := hf 0 _ rfl (by kernel_rfl) (by simp)
  obtain ⟨y1, t1⟩ := hf 1 _ rfl (by kernel_rfl) (by simp)
  obtain ⟨y2, t2⟩ := hf 2 _ rfl (by kernel_rfl) (by simp)
  obtain ⟨k, rfl, r0⟩ := trod_i64 Try.underlying3 t0
  obtain ⟨a, rfl, r1⟩ := trod_i64 Try.underlying3 t1
  obtain ⟨o, rfl, r2⟩ := trod_i64 Try.underlying3 t2
  exact ⟨⟨k, a, o⟩, rfl, r0, r1, r2⟩

/-- how the cells of class i read -/
theorem RdS.cls {w : World} {a : Option Addr} {n : Nat} {S : List Cls} (h : RdS 3 Qcl w a n S) {i : Nat} {c : Cls} (hc : S[i]? = some c) :
    ∃ b off, a = some ⟨b, off, none⟩ ∧ b < w.heap.size ∧ w.cell? ⟨b, off + i * 3, none⟩ = some (.int .i64 c.r) ∧ w.cell? ⟨b, off + i * 3 + 1, none⟩ = some (.int .i64 c.w) ∧ w.cell? ⟨b, off + i * 3 + 2, none⟩ = some (.int .i64 c.a) ∧ I64 c.r ∧ I64 c.w ∧ I64 c.a := by
  have hi : i < S.length := by
    rcases Nat.lt_or_ge i S.length with h' | h'
    · exact h'
    · simp [h'] at hc
  obtain ⟨b, off, e, hlt, hcs⟩ := h.at_ (by rw [← h.hlen]; omega)
  obtain ⟨cs, _, ⟨rfl, r1, r2, r3⟩, hcell⟩ := hcs i c hc
  exact ⟨b, off, e, hlt, hcell 0 _ rfl, hcell 1 _ rfl, hcell 2 _ rfl, r1, r2, r3⟩

/-! ### may -/
theorem may_any (c : Cls) (w : World) (h : I64 c.r ∧ I64 c.w ∧ I64 c.a) :
    Calls Try.prog 30 #[.agg #[.int .i64 c.r, .int .i64 c.w, .int .i64 c.a]] w fun e w' => e = .returned (.bool (mayB c)) ∧ w' = w.alloc (.cells #[.int .i64 c.r, .int .i64 c.w, .int .i64 c.a] 47) := by
  obtain ⟨r, wd, a⟩ := c
  obtain ⟨⟨h1, h2⟩, ⟨h3, h4⟩, ⟨h5, h6⟩⟩ := h
  simp only at *
  by_cases a1 : a = 1 ∨ a = 2
  · rcases a1 with rfl | rfl
    all_goals
      by_cases hr : r = 0
      · have hb : (r == 0) = true := by simpa using hr
        by_cases hw : wd = 0
        · have hb' : (wd == 0) = true := by simpa using hw
          have hm : ∀ a', (a' = 1 ∨ a' = 2) → mayB ⟨r, wd, a'⟩ = true := by intro a' ha; simp [mayB, Cls.May, ha, hr, hw]
          rw [hm _ (by omega)]
          clear hm hr hw
          go_enter Try.func30, Try.ntmps30
          go_wp2
          go_ret
          exact ⟨rfl, rfl⟩
        · have hb' : (wd == 0) = false := by simpa using hw
          have hm : ∀ a', (a' = 1 ∨ a' = 2) → mayB ⟨r, wd, a'⟩ = false := by intro a' ha; simp [mayB, Cls.May, hw]; omega
          rw [hm _ (by omega)]
          clear hm hr hw
          go_enter Try.func30, Try.ntmps30
          go_wp2
          go_ret
          exact ⟨rfl, rfl⟩
      · have hb : (r == 0) = false := by simpa using hr
        have hm : ∀ a', (a' = 1 ∨ a' = 2) → mayB ⟨r, wd, a'⟩ = false := by intro a' ha; simp [mayB, Cls.May, hr]; omega
        rw [hm _ (by omega)]
        clear hm hr
        go_enter Try.func30, Try.ntmps30
        go_wp2
        go_ret
        exact ⟨rfl, rfl⟩
  · have k1 : (a == 1) = false := by simp; omega
    have k2 : (a == 2) = false := by simp; omega
    by_cases a0 : a = 0
    · subst a0
      by_cases hr : 0 ≤ r
      · by_cases hr2 : r ≤ 64
        · by_cases hw : 0 ≤ wd
          · by_cases hw2 : wd ≤ 64 - r
            · have hm : mayB ⟨r, wd, 0⟩ = true := by simp [mayB, Cls.May]; omega
              rw [hm]
              clear hm a1
              go_enter Try.func30, Try.ntmps30
              go_wp2
              go_ret
              exact ⟨rfl, rfl⟩
            · have hm : mayB ⟨r, wd, 0⟩ = false := by simp [mayB, Cls.May]; omega
              rw [hm]
              clear hm a1
              go_enter Try.func30, Try.ntmps30
              go_wp2
              go_ret
              exact ⟨rfl, rfl⟩
          · have hm : mayB ⟨r, wd, 0⟩ = false := by simp [mayB, Cls.May]; omega
            rw [hm]
            clear hm a1
            go_enter Try.func30, Try.ntmps30
            go_wp2
            go_ret
            exact ⟨rfl, rfl⟩
        · have hm : mayB ⟨r, wd, 0⟩ = false := by
            rw [Bool.eq_false_iff]; simp [mayB, Cls.May]; omega
          rw [hm]
          clear hm a1
          by_cases hw : 0 ≤ wd
          all_goals
            go_enter Try.func30, Try.ntmps30
            go_wp2
            go_ret
            exact ⟨by simp, rfl⟩
      · have hm : mayB ⟨r, wd, 0⟩ = false := by
          rw [Bool.eq_false_iff]; simp [mayB, Cls.May]; omega
        rw [hm]
        clear hm a1
        go_enter Try.func30, Try.ntmps30
        go_wp2
        go_ret
        exact ⟨by simp, rfl⟩
    · have hm : mayB ⟨r, wd, a⟩ = false := mayB_f (by rw [May_mk]; omega)
      rw [hm]
      have k0 : (a == 0) = false := by simpa using a0
      clear hm a1 a0
      go_enter Try.func30, Try.ntmps30
      go_wp2
      go_ret
      exact ⟨rfl, rfl⟩

set_option maxHeartbeats 1000000 in
theorem rmay_any (c : Cls) (w : World) (h : I64 c.r ∧ I64 c.w ∧ I64 c.a) :
    Calls Try.prog 31 #[.agg #[.int .i64 c.r, .int .i64 c.w, .int .i64 c.a]] w fun e w' => e = .returned (.bool (mayB c)) ∧ w' = w.alloc (.cells #[.int .i64 c.r, .int .i64 c.w, .int .i64 c.a] 37) := by
  obtain ⟨r, wd, a⟩ := c
  obtain ⟨⟨h1, h2⟩, ⟨h3, h4⟩, ⟨h5, h6⟩⟩ := h
  simp only at *
  by_cases a1 : a = 1 ∨ a = 2
  · rcases a1 with rfl | rfl
    all_goals
      by_cases hr : r = 0
      · have hb : (r == 0) = true := by simpa using hr
        by_cases hw : wd = 0
        · have hb' : (wd == 0) = true := by simpa using hw
          have hm : ∀ a', (a' = 1 ∨ a' = 2) → mayB ⟨r, wd, a'⟩ = true := by intro a' ha; simp [mayB, Cls.May, ha, hr, hw]
          rw [hm _ (by omega)]
          clear hm hr hw
          go_enter Try.func31, Try.ntmps31
          go_wp2
          go_ret
          exact ⟨rfl, rfl⟩
        · have hb' : (wd == 0) = false := by simpa using hw
          have hm : ∀ a', (a' = 1 ∨ a' = 2) → mayB ⟨r, wd, a'⟩ = false := by intro a' ha; simp [mayB, Cls.May, hw]; omega
          rw [hm _ (by omega)]
          clear hm hr hw
          go_enter Try.func31, Try.ntmps31
          go_wp2
          go_ret
          exact ⟨rfl, rfl⟩
      · have hb : (r == 0) = false := by simpa using hr
        have hm : ∀ a', (a' = 1 ∨ a' = 2) → mayB ⟨r, wd, a'⟩ = false := by intro a' ha; simp [mayB, Cls.May, hr]; omega
        rw [hm _ (by omega)]
        clear hm hr
        go_enter Try.func31, Try.ntmps31
        go_wp2
        go_ret
        exact ⟨rfl, rfl⟩
  · have k1 : (a == 1) = false := by simp; omega
    have k2 : (a == 2) = false := by simp; omega
    by_cases a0 : a = 0
    · subst a0
      by_cases hr : 0 ≤ r
      · by_cases hr2 : r ≤ 64
        · by_cases hw : 0 ≤ wd
          · by_cases hw2 : wd ≤ 64
            · by_cases hw3 : r + wd ≤ 64
              · have hm : mayB ⟨r, wd, 0⟩ = true := mayB_t (by rw [May_mk]; omega)
                rw [hm]
                clear hm a1
                go_enter Try.func31, Try.ntmps31
                go_wp2
                go_ret
                exact ⟨rfl, rfl⟩
              · have hm : mayB ⟨r, wd, 0⟩ = false := mayB_f (by rw [May_mk]; omega)
                rw [hm]
                clear hm a1
                go_enter Try.func31, Try.ntmps31
                go_wp2
                go_ret
                exact ⟨rfl, rfl⟩
            · have hm : mayB ⟨r, wd, 0⟩ = false := mayB_f (by rw [May_mk]; omega)
              rw [hm]
              clear hm a1
              go_enter Try.func31, Try.ntmps31
              go_wp2
              go_ret
              exact ⟨rfl, rfl⟩
          · have hm : mayB ⟨r, wd, 0⟩ = false := mayB_f (by rw [May_mk]; omega)
            rw [hm]
            clear hm a1
            go_enter Try.func31, Try.ntmps31
            go_wp2
            go_ret
            exact ⟨rfl, rfl⟩
        · have hm : mayB ⟨r, wd, 0⟩ = false := by
            rw [Bool.eq_false_iff]; simp [mayB, Cls.May]; omega
          rw [hm]
          clear hm a1
          by_cases hw : 0 ≤ wd
          all_goals
            go_enter Try.func31, Try.ntmps31
            go_wp2
            go_ret
            exact ⟨by simp, rfl⟩
      · have hm : mayB ⟨r, wd, 0⟩ = false := by
          rw [Bool.eq_false_iff]; simp [mayB, Cls.May]; omega
        rw [hm]
        clear hm a1
        go_enter Try.func31, Try.ntmps31
        go_wp2
        go_ret
        exact ⟨by simp, rfl⟩
    · have hm : mayB ⟨r, wd, a⟩ = false := mayB_f (by rw [May_mk]; omega)
      rw [hm]
      have k0 : (a == 0) = false := by simpa using a0
      clear hm a1 a0
      go_enter Try.func31, Try.ntmps31
      go_wp2
      go_ret
      exact ⟨rfl, rfl⟩

/-! ### find -/
def fndC (S : List Cls) (k : Int) : Option Cls := if 1 ≤ k then S[k.toNat - 1]? else none
/-- the class found, or a zero one -/
def fndV (S : List Cls) (k : Int) : Cls := (fndC S k).getD zCls
def fndB (S : List Cls) (k : Int) : Bool := match fndC S k with | some c => mayB c | none => false

theorem find_some (a : Option Addr) (n cp : Nat) (S : List Cls) (k : Int) (c : Cls) (w : World) (h : RdS 3 Qcl w a n S) (hc : fndC S k = some c) :
    Calls Try.prog 25 #[.slice a n cp, .int .i64 k] w fun e w' => e = .returned (.tuple #[.agg #[.int .i64 c.r, .int .i64 c.w, .int .i64 c.a], .bool (mayB c)]) ∧ Fr (fun _ => False) w w' := by
  have hk : 1 ≤ k := by
    unfold fndC at hc; split at hc
    · assumption
    · cases hc
  rw [fndC, if_pos hk] at hc
  obtain ⟨b, off, rfl, hb, c0, c1, c2, r0, r1, r2⟩ := h.cls hc
  have hlt := lt_of_get hc
  have hkn : k ≤ (n : Int) := by have := h.hlen; omega
  have hn := h.le
  unfold maxLen at hn
  have hmay := fun w => may_any c w ⟨r0, r1, r2⟩
  have HM := Lib.hid hmay
  clear hmay hc h
  obtain ⟨r, wd, ar⟩ := c
  simp only at c0 c1 c2 HM
  go_enter Try.func25, Try.ntmps25
  go_wp2_with fail
  go_region_with (go_at_call 30; refine (HM.out _).mono ?_; rintro e w' ⟨rfl, rfl⟩)
  all_goals
    go_wp2
    refine bodyPost_ret (v := .tuple #[.agg #[.int .i64 r, .int .i64 wd, .int .i64 ar], .bool (mayB ⟨r, wd, ar⟩)]) (by simp [results, Try.results25, go_sem]) rfl ⟨rfl, ?_⟩
    exact ((((Fr.refl _ w).alloc _).alloc _).alloc _).drew
end Go.Proofs.Yteappcepppicoaa
