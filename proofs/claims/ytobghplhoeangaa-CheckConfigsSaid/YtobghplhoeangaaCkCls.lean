/- The contracts of package classes (layer 3) and of ballastref03: which classes may be; a class found. -/
import Derived.Test.YtobghplhoeangaaProg
import Derived.Test.YtobghplhoeangaaOpen
import Derived.WalkSpells
import Derived.WalkLawsBesides
import Derived.KernelRfl
import Derived.RegionTactic
import Derived.Lib.Hide
import Derived.Deep.DeepMust
import Derived.Deep.RegionWith
namespace Go.Proofs.Ytobghplhoeangaa
open Go.RowKit Go.HK
set_option maxRecDepth 100000

theorem mkFunc (fn : Fn) (first cap : Array Value) (w : World) : (Instr.makeFunc fn first cap).run Try.prog w = .ok (.func fn first cap) w := rfl

/-! ### plain words -/
structure Cls where
  r : Int
  w : Int
  a : Int
def zCls : Cls := ⟨0, 0, 0⟩
def Cls.val (c : Cls) : Value := .agg #[.int .i64 c.r, .int .i64 c.w, .int .i64 c.a]
def Cls.cells (c : Cls) : List Value := [.int .i64 c.r, .int .i64 c.w, .int .i64 c.a]
def Cls.May (c : Cls) : Prop := ((c.a = 1 ∨ c.a = 2) ∧ c.r = 0 ∧ c.w = 0) ∨ (c.a = 0 ∧ 0 ≤ c.r ∧ 0 ≤ c.w ∧ c.r ≤ 64 ∧ c.w ≤ 64 - c.r)
instance (c : Cls) : Decidable c.May := by unfold Cls.May; infer_instance
def mayB (c : Cls) : Bool := decide c.May
theorem mayB_t {c : Cls} (h : c.May) : mayB c = true := decide_eq_true h
theorem mayB_f {c : Cls} (h : ¬ c.May) : mayB c = false := decide_eq_false h
theorem May_mk (r w a : Int) : Cls.May ⟨r, w, a⟩ ↔ (((a = 1 ∨ a = 2) ∧ r = 0 ∧ w = 0) ∨ (a = 0 ∧ 0 ≤ r ∧ 0 ≤ w ∧ r ≤ 64 ∧ w ≤ 64 - r)) := Iff.rfl
theorem lt_of_get {α : Type} {l : List α} {i : Nat} {x : α} (h : l[i]? = some x) : i < l.length := by
  rcases Nat.lt_or_ge i l.length with h' | h'
  · exact h'
  · rw [List.getElem?_eq_none h'] at h; cases h

def Qcl (l : List Value) (c : Cls) : Prop := l = c.cells ∧ I64 c.r ∧ I64 c.w ∧ I64 c.a

theorem open_cls {H : Type} {enc : TypeId × Value → H} {W : World} {base : Nat} {held : Bool} {n : Nat} {l : List Value} {y : DataW H × List MemPlace}
    (h : DataW.trod enc Try.prog W base (fun _ => true) held n 59 l = some y) : ∃ z : Cls, Qcl l z := by
  obtain ⟨m, hl, hf⟩ := trod_fields Try.underlying59 h
  obtain ⟨c0, c1, c2, rfl⟩ := list3 (hl.trans (show Try.prog.cellsOf 59 = 3 by kernel_rfl))
  obtain ⟨y0, t0⟩ := hf 0 _ rfl (by kernel_rfl) (by simp)
  obtain ⟨y1, t1⟩ := hf 1 _ rfl (by kernel_rfl) (by simp)
  obtain ⟨y2, t2⟩ := hf 2 _ rfl (by kernel_rfl) (by simp)
  obtain ⟨k, rfl, r0⟩ := trod_i64 Try.underlying3 t0
  obtain ⟨a, rfl, r1⟩ := trod_i64 Try.underlying3 t1
  obtain ⟨o, rfl, r2⟩ := trod_i64 Try.underlying3 t2
  exact ⟨⟨k, a, o⟩, rfl, r0, r1, r2⟩

/-- how the cells of class i read -/
theorem RdS.cls {w : World} {a : Option Addr} {n : Nat} {S : List Cls} (h : RdS 3 Qcl w a n S) {i : Nat} {c : Cls} (hc : S[i]? = some c) :
    ∃ b off, a = some ⟨b, off, none⟩ ∧ b < w.heap.size ∧ w.cell? ⟨b, off + i * 3, none⟩ = some (.int .i64 c.r) ∧ w.cell? ⟨b, off + i * 3 + 1, none⟩ = some (.int .i64 c.w) ∧ w.cell? ⟨b, off + i * 3 + 2, none⟩ = some (.int .i64 c.a) ∧ I64 c.r ∧ I64 c.w ∧ I64 c.a := by
  have hi : i < S.length := by
    rcases Nat.lt_or_ge i S.length with h' | h'
    · exact h'
    · simp [h'] at hc
  obtain ⟨b, off, e, hlt, hcs⟩ := h.at_ (by rw [← h.hlen]; omega)
  obtain ⟨cs, _, ⟨rfl, r1, r2, r3⟩, hcell⟩ := hcs i c hc
  exact ⟨b, off, e, hlt, hcell 0 _ rfl, hcell 1 _ rfl, hcell 2 _ rfl, r1, r2, r3⟩

/-! ### may -/
theorem may_any (c : Cls) (w : World) (h : I64 c.r ∧ I64 c.w ∧ I64 c.a) :
    Calls Try.prog 31 #[.agg #[.int .i64 c.r, .int .i64 c.w, .int .i64 c.a]] w fun e w' => e = .returned (.bool (mayB c)) ∧ w' = w.alloc (.cells #[.int .i64 c.r, .int .i64 c.w, .int .i64 c.a] 71) := by
  obtain ⟨r, wd, a⟩ := c
  obtain ⟨⟨h1, h2⟩, ⟨h3, h4⟩, ⟨h5, h6⟩⟩ := h
  simp only at *
  by_cases a1 : a = 1 ∨ a = 2
  · rcases a1 with rfl | rfl
    all_goals
      by_cases hr : r = 0
      · have hb : (r == 0) = true := by simpa using hr
        by_cases hw : wd = 0
        · have hb' : (wd == 0) = true := by simpa using hw
          have hm : ∀ a', (a' = 1 ∨ a' = 2) → mayB ⟨r, wd, a'⟩ = true := by intro a' ha; simp [mayB, Cls.May, ha, hr, hw]
          rw [hm _ (by omega)]
          clear hm hr hw
          go_enter Try.func31, Try.ntmps31
          go_wp2
          go_ret
          exact ⟨rfl, rfl⟩
        · have hb' : (wd == 0) = false := by simpa using hw
          have hm : ∀ a', (a' = 1 ∨ a' = 2) → mayB ⟨r, wd, a'⟩ = false := by intro a' ha; simp [mayB, Cls.May, hw]; omega
          rw [hm _ (by omega)]
          clear hm hr hw
          go_enter Try.func31, Try.ntmps31
          go_wp2
          go_ret
          exact ⟨rfl, rfl⟩
      · have hb : (r == 0) = false := by simpa using hr
        have hm : ∀ a', (a' = 1 ∨ a' = 2) → mayB ⟨r, wd, a'⟩ = false := by intro a' ha; simp [mayB, Cls.May, hr]; omega
        rw [hm _ (by omega)]
        clear hm hr
        go_enter Try.func31, Try.ntmps31
        go_wp2
        go_ret
        exact ⟨rfl, rfl⟩
  · have k1 : (a == 1) = false := by simp; omega
    have k2 : (a == 2) = false := by simp; omega
    by_cases a0 : a = 0
    · subst a0
      by_cases hr : 0 ≤ r
      · by_cases hr2 : r ≤ 64
        · by_cases hw : 0 ≤ wd
          · by_cases hw2 : wd ≤ 64 - r
            · have hm : mayB ⟨r, wd, 0⟩ = true := by simp [mayB, Cls.May]; omega
              rw [hm]
              clear hm a1
              go_enter Try.func31, Try.ntmps31
              go_wp2
              go_ret
              exact ⟨rfl, rfl⟩
            · have hm : mayB ⟨r, wd, 0⟩ = false := by simp [mayB, Cls.May]; omega
              rw [hm]
              clear hm a1
              go_enter Try.func31, Try.ntmps31
              go_wp2
              go_ret
              exact ⟨rfl, rfl⟩
          · have hm : mayB ⟨r, wd, 0⟩ = false := by simp [mayB, Cls.May]; omega
            rw [hm]
            clear hm a1
            go_enter Try.func31, Try.ntmps31
            go_wp2
            go_ret
            exact ⟨rfl, rfl⟩
        · have hm : mayB ⟨r, wd, 0⟩ = false := by
            rw [Bool.eq_false_iff]; simp [mayB, Cls.May]; omega
          rw [hm]
          clear hm a1
          by_cases hw : 0 ≤ wd
          all_goals
            go_enter Try.func31, Try.ntmps31
            go_wp2
            go_ret
            exact ⟨by simp, rfl⟩
      · have hm : mayB ⟨r, wd, 0⟩ = false := by
          rw [Bool.eq_false_iff]; simp [mayB, Cls.May]; omega
        rw [hm]
        clear hm a1
        go_enter Try.func31, Try.ntmps31
        go_wp2
        go_ret
        exact ⟨by simp, rfl⟩
    · have hm : mayB ⟨r, wd, a⟩ = false := mayB_f (by rw [May_mk]; omega)
      rw [hm]
      have k0 : (a == 0) = false := by simpa using a0
      clear hm a1 a0
      go_enter Try.func31, Try.ntmps31
      go_wp2
      go_ret
      exact ⟨rfl, rfl⟩

set_option maxHeartbeats 1000000 in
theorem rmay_any (c : Cls) (w : World) (h : I64 c.r ∧ I64 c.w ∧ I64 c.a) :
    Calls Try.prog 33 #[.agg #[.int .i64 c.r, .int .i64 c.w, .int .i64 c.a]] w fun e w' => e = .returned (.bool (mayB c)) ∧ w' = w.alloc (.cells #[.int .i64 c.r, .int .i64 c.w, .int .i64 c.a] 59) := by
  obtain ⟨r, wd, a⟩ := c
  obtain ⟨⟨h1, h2⟩, ⟨h3, h4⟩, ⟨h5, h6⟩⟩ := h
  simp only at *
  by_cases a1 : a = 1 ∨ a = 2
  · rcases a1 with rfl | rfl
    all_goals
      by_cases hr : r = 0
      · have hb : (r == 0) = true := by simpa using hr
        by_cases hw : wd = 0
        · have hb' : (wd == 0) = true := by simpa using hw
          have hm : ∀ a', (a' = 1 ∨ a' = 2) → mayB ⟨r, wd, a'⟩ = true := by intro a' ha; simp [mayB, Cls.May, ha, hr, hw]
          rw [hm _ (by omega)]
          clear hm hr hw
          go_enter Try.func33, Try.ntmps33
          go_wp2
          go_ret
          exact ⟨rfl, rfl⟩
        · have hb' : (wd == 0) = false := by simpa using hw
          have hm : ∀ a', (a' = 1 ∨ a' = 2) → mayB ⟨r, wd, a'⟩ = false := by intro a' ha; simp [mayB, Cls.May, hw]; omega
          rw [hm _ (by omega)]
          clear hm hr hw
          go_enter Try.func33, Try.ntmps33
          go_wp2
          go_ret
          exact ⟨rfl, rfl⟩
      · have hb : (r == 0) = false := by simpa using hr
        have hm : ∀ a', (a' = 1 ∨ a' = 2) → mayB ⟨r, wd, a'⟩ = false := by intro a' ha; simp [mayB, Cls.May, hr]; omega
        rw [hm _ (by omega)]
        clear hm hr
        go_enter Try.func33, Try.ntmps33
        go_wp2
        go_ret
        exact ⟨rfl, rfl⟩
  · have k1 : (a == 1) = false := by simp; omega
    have k2 : (a == 2) = false := by simp; omega
    by_cases a0 : a = 0
    · subst a0
      by_cases hr : 0 ≤ r
      · by_cases hr2 : r ≤ 64
        · by_cases hw : 0 ≤ wd
          · by_cases hw2 : wd ≤ 64
            · by_cases hw3 : r + wd ≤ 64
              · have hm : mayB ⟨r, wd, 0⟩ = true := mayB_t (by rw [May_mk]; omega)
                rw [hm]
                clear hm a1
                go_enter Try.func33, Try.ntmps33
                go_wp2
                go_ret
                exact ⟨rfl, rfl⟩
              · have hm : mayB ⟨r, wd, 0⟩ = false := mayB_f (by rw [May_mk]; omega)
                rw [hm]
                clear hm a1
                go_enter Try.func33, Try.ntmps33
                go_wp2
                go_ret
                exact ⟨rfl, rfl⟩
            · have hm : mayB ⟨r, wd, 0⟩ = false := mayB_f (by rw [May_mk]; omega)
              rw [hm]
              clear hm a1
              go_enter Try.func33, Try.ntmps33
              go_wp2
              go_ret
              exact ⟨rfl, rfl⟩
          · have hm : mayB ⟨r, wd, 0⟩ = false := mayB_f (by rw [May_mk]; omega)
            rw [hm]
            clear hm a1
            go_enter Try.func33, Try.ntmps33
            go_wp2
            go_ret
            exact ⟨rfl, rfl⟩
        · have hm : mayB ⟨r, wd, 0⟩ = false := by
            rw [Bool.eq_false_iff]; simp [mayB, Cls.May]; omega
          rw [hm]
          clear hm a1
          by_cases hw : 0 ≤ wd
          all_goals
            go_enter Try.func33, Try.ntmps33
            go_wp2
            go_ret
            exact ⟨by simp, rfl⟩
      · have hm : mayB ⟨r, wd, 0⟩ = false := by
          rw [Bool.eq_false_iff]; simp [mayB, Cls.May]; omega
        rw [hm]
        clear hm a1
        go_enter Try.func33, Try.ntmps33
        go_wp2
        go_ret
        exact ⟨by simp, rfl⟩
    · have hm : mayB ⟨r, wd, a⟩ = false := mayB_f (by rw [May_mk]; omega)
      rw [hm]
      have k0 : (a == 0) = false := by simpa using a0
      clear hm a1 a0
      go_enter Try.func33, Try.ntmps33
      go_wp2
      go_ret
      exact ⟨rfl, rfl⟩

/-! ### find -/
theorem clo_any (c : Cls) (w : World) (h : I64 c.r ∧ I64 c.w ∧ I64 c.a) :
    Calls Try.prog 30 #[.agg #[.int .i64 c.r, .int .i64 c.w, .int .i64 c.a]] w fun e w' => e = .returned (.bool (!mayB c)) ∧ Fr (fun _ => False) w w' := by
  have hm := fun w => may_any c w h
  have HM := Lib.hid hm
  clear hm
  obtain ⟨r, wd, ar⟩ := c
  simp only at *
  go_enter Try.func30, Try.ntmps30
  go_wp2_with fail
  refine (HM.out _).mono ?_
  rintro e w' ⟨rfl, rfl⟩
  go_wp2
  go_ret
  exact ⟨rfl, ((Fr.refl _ w).alloc _).alloc _⟩

def IdxR (S : List Cls) (w : World) (e : Ending) (w' : World) : Prop :=
  Fr (fun _ => False) w w' ∧ ((S.all mayB = true ∧ e = .returned (.int .i64 (-1))) ∨ (S.all mayB = false ∧ ∃ r : Nat, (r : Int) ≤ 9223372036854775807 ∧ e = .returned (.int .i64 r)))

theorem all_upto {S : List Cls} {k : Nat} (h : ∀ j c, j < k → S[j]? = some c → mayB c = true) (hk : S.length ≤ k) : S.all mayB = true := by
  rw [List.all_eq_true]
  intro c hc
  obtain ⟨i, hi, rfl⟩ := List.getElem_of_mem hc
  exact h i _ (by omega) (List.getElem?_eq_getElem hi)
theorem all_not {S : List Cls} {k : Nat} {c : Cls} (hc : S[k]? = some c) (hm : mayB c = false) : S.all mayB = false := by
  rw [List.all_eq_false]
  have hi := lt_of_get hc
  rw [List.getElem?_eq_getElem hi] at hc
  cases hc
  exact ⟨_, List.getElem_mem hi, by simp [hm]⟩

theorem RdS.fr {α : Type} {s : Nat} {Q : List Value → α → Prop} {w w' : World} {a : Option Addr} {n : Nat} {S : List α} (h : RdS s Q w a n S) (k : Fr (fun _ => False) w w') : RdS s Q w' a n S :=
  h.below (k.below (Nat.le_refl _) (fun _ _ h => h))

theorem c_IndexFunc (a : Option Addr) (n cp : Nat) (S : List Cls) (w : World) (h : RdS 3 Qcl w a n S) :
    Calls Try.prog 35 #[.slice a n cp, .func (.func 30) #[] #[]] w (IdxR S w) := by
  have hn := h.le
  unfold maxLen at hn
  have hl := h.hlen
  have HL := Lib.hid hl
  clear hl
  go_enter Try.func35, Try.ntmps35
  go_wp2
  go_loopw [8] (fun i wr => ∃ k : Nat, i = .int .i64 k ∧ k ≤ n ∧ (∀ j c, j < k → S[j]? = some c → mayB c = true) ∧ Fr (fun _ => False) w wr) (fun i _ => n - (intOf i).toNat)
  case atStart => exact ⟨0, rfl, by omega, fun j c hj => by omega, Fr.refl _ _⟩
  case round =>
    obtain ⟨k, rfl, hk, hall, G⟩ := hrel
    by_cases hlt : k < n
    · have hS : S[k]? = some (S[k]'(by have := HL.out; omega)) := List.getElem?_eq_getElem _
      generalize (S[k]'(by have := HL.out; omega)) = c at hS
      obtain ⟨b, off, rfl, hb, c0, c1, c2, r0, r1, r2⟩ := (h.fr G).cls hS
      have hclo := clo_any c wr ⟨r0, r1, r2⟩
      have HA := Lib.hid hall
      have HS := Lib.hid hS
      cases hm : mayB c with
      | true =>
        rw [hm] at hclo
        have HC := Lib.hid hclo
        have HM := Lib.hid hm
        clear hclo hall hS hm
        obtain ⟨r, wd, ar⟩ := c
        simp only at *
        go_wp2_with fail
        refine HC.out.mono ?_
        rintro e w' ⟨rfl, hfr⟩
        have G' := G.trans hfr
        go_wp2
        go_roundw
        case rel =>
          refine ⟨k + 1, by go_num, by omega, fun j c hj hc => ?_, G'⟩
          by_cases hjk : j < k
          · exact HA.out j c hjk hc
          · obtain rfl : j = k := by omega
            rw [HS.out] at hc; cases hc; exact HM.out
        case measure => simp [intOf]; omega
      | false =>
        rw [hm] at hclo
        have HC := Lib.hid hclo
        have HN := Lib.hid (all_not hS hm)
        clear hclo hall hS hm
        obtain ⟨r, wd, ar⟩ := c
        simp only at *
        go_wp2_with fail
        refine HC.out.mono ?_
        rintro e w' ⟨rfl, hfr⟩
        have G' := G.trans hfr
        go_wp2
        go_ret
        exact ⟨G', .inr ⟨HN.out, k, by omega, rfl⟩⟩
    · have HN := Lib.hid (all_upto hall (by have := HL.out; omega))
      clear hall
      go_wp2
      go_ret
      exact ⟨G, .inl ⟨HN.out, rfl⟩⟩

def chkE (S : List Cls) : Int := if S.length ≤ 16 ∧ S.all mayB = true then 0 else 12

theorem c_Check (a : Option Addr) (n cp : Nat) (S : List Cls) (w : World) (h : RdS 3 Qcl w a n S) :
    Calls Try.prog 14 #[.slice a n cp] w fun e w' => e = .returned (.int .i64 (chkE S)) ∧ Fr (fun _ => False) w w' := by
  have hn := h.le
  unfold maxLen at hn
  have hl := h.hlen
  have hi := c_IndexFunc a n cp S w h
  have HI := Lib.hid hi
  have hmf := mkFunc
  clear hi h
  by_cases h16 : 16 < n
  · have e : chkE S = 12 := by unfold chkE; rw [if_neg (by omega)]
    rw [e]
    clear e hl
    go_enter Try.func14, Try.ntmps14
    go_wp2
    go_ret
    exact ⟨rfl, Fr.refl _ _⟩
  · have HL := Lib.hid hl
    clear hl
    go_enter Try.func14, Try.ntmps14
    go_wp2_with (go_at_call 29; go_in)
    refine HI.out.mono ?_
    rintro e w' ⟨hfr, ⟨hall, rfl⟩ | ⟨hall, r, hr, rfl⟩⟩
    · have e : chkE S = 0 := by unfold chkE; rw [if_pos ⟨by have := HL.out; omega, hall⟩]
      have HE := Lib.hid e
      clear e hall
      go_wp2
      go_ret
      exact ⟨by rw [HE.out]; rfl, hfr⟩
    · have e : chkE S = 12 := by unfold chkE; rw [if_neg (by simp [hall])]
      have HE := Lib.hid e
      clear e hall
      go_wp2
      go_ret
      exact ⟨by rw [HE.out]; rfl, hfr⟩

theorem r_Check (a : Option Addr) (n cp : Nat) (S : List Cls) (w : World) (h : RdS 3 Qcl w a n S) :
    Calls Try.prog 18 #[.slice a n cp] w fun e w' => e = .returned (.int .i64 (chkE S)) ∧ Fr (fun _ => False) w w' := by
  have hn := h.le
  unfold maxLen at hn
  have hl := h.hlen
  have HL := Lib.hid hl
  by_cases h16 : 16 < n
  · have e : chkE S = 12 := by unfold chkE; rw [if_neg (by omega)]
    rw [e]
    clear e hl h
    go_enter Try.func18, Try.ntmps18
    go_wp2
    go_ret
    exact ⟨rfl, Fr.refl _ _⟩
  · clear hl
    go_enter Try.func18, Try.ntmps18
    go_wp2
    go_loopw [3] (fun i wr => ∃ k : Nat, i = .int .i64 k ∧ k ≤ n ∧ (∀ j c, j < k → S[j]? = some c → mayB c = true) ∧ Fr (fun _ => False) w wr) (fun i _ => n - (intOf i).toNat)
    case atStart => exact ⟨0, rfl, by omega, fun j c hj => by omega, Fr.refl _ _⟩
    case round =>
      obtain ⟨k, rfl, hk, hall, G⟩ := hrel
      by_cases hlt : k < n
      · have hS : S[k]? = some (S[k]'(by have := HL.out; omega)) := List.getElem?_eq_getElem _
        generalize (S[k]'(by have := HL.out; omega)) = c at hS
        obtain ⟨b, off, rfl, hb, c0, c1, c2, r0, r1, r2⟩ := (h.fr G).cls hS
        have hclo := rmay_any c wr ⟨r0, r1, r2⟩
        have HA := Lib.hid hall
        have HS := Lib.hid hS
        cases hm : mayB c with
        | true =>
          rw [hm] at hclo
          have HC := Lib.hid hclo
          have HM := Lib.hid hm
          clear hclo hall hS hm
          obtain ⟨r, wd, ar⟩ := c
          simp only at *
          go_wp2_with fail
          refine HC.out.mono ?_
          rintro e w' ⟨rfl, rfl⟩
          go_wp2
          go_roundw
          case rel =>
            refine ⟨k + 1, by go_num, by omega, fun j c hj hc => ?_, G.alloc _⟩
            by_cases hjk : j < k
            · exact HA.out j c hjk hc
            · obtain rfl : j = k := by omega
              rw [HS.out] at hc; cases hc; exact HM.out
          case measure => simp [intOf]; omega
        | false =>
          rw [hm] at hclo
          have HC := Lib.hid hclo
          have hne := all_not hS hm
          have e : chkE S = 12 := by unfold chkE; rw [if_neg (by simp [hne])]
          have HE := Lib.hid e
          clear hclo hall hS hm hne e
          obtain ⟨r, wd, ar⟩ := c
          simp only at *
          go_wp2_with fail
          refine HC.out.mono ?_
          rintro e w' ⟨rfl, rfl⟩
          go_wp2
          go_ret
          exact ⟨by rw [HE.out]; rfl, G.alloc _⟩
      · have hne := all_upto hall (by have := HL.out; omega)
        have e : chkE S = 0 := by unfold chkE; rw [if_pos ⟨by have := HL.out; omega, hne⟩]
        have HE := Lib.hid e
        clear hall hne e
        go_wp2
        go_ret
        exact ⟨by rw [HE.out]; rfl, G⟩

/-! ### Sum -/
end Go.Proofs.Ytobghplhoeangaa
