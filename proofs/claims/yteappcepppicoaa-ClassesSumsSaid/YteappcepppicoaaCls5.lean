/- The contracts of package classes and of ballastref03: Refs, Ref. -/
import Derived.Test.YteappcepppicoaaCls4
namespace Go.Proofs.Yteappcepppicoaa
open Go.RowKit Go.HK
set_option maxRecDepth 100000

theorem info_int : (Try.prog.info? 3).map (fun i => (i.zero, i.size, i.bytes)) = some (some (.int .i64 0), 1, 8) := by kernel_rfl
theorem ints_one (L : List Int) : ∀ u ∈ L.map (Value.int .i64), u.oneCell' = true := ints_oneCell _ _

def isRefB (c : Cls) (i : Int) : Bool := decide (c.a = 1 ∨ (c.a = 0 ∧ i ≤ c.r))
/-- the references among the first j words behind the header -/
def refsUp (c : Cls) : Nat → List Int
  | 0 => []
  | j + 1 => if isRefB c ((j : Int) + 1) then refsUp c j ++ [(j : Int) + 1] else refsUp c j
theorem refsUp_le (c : Cls) (j : Nat) : (refsUp c j).length ≤ j := by
  induction j with
  | zero => simp [refsUp]
  | succ j ih =>
    unfold refsUp
    split
    · rw [List.length_append]; simp; omega
    · omega

/-- the object that may be: its class and how many words -/
def objC (S : List Cls) (k len : Int) : Option Cls := match fndC S k with
  | some c => if mayB c = true ∧ (sizeP S k len).2 = 0 then some c else none
  | none => none
def refsL (S : List Cls) (k len : Int) : List Int := match objC S k len with
  | some c => refsUp c ((sizeP S k len).1 - 1).toNat
  | none => []

theorem size_bd (S : List Cls) (k len : Int) : 0 ≤ (sizeP S k len).1 ∧ (sizeP S k len).1 ≤ 65536 := by
  unfold sizeP
  cases fndC S k with
  | some c =>
    simp only
    by_cases hm : mayB c = true
    · rw [if_pos hm]
      have := May_of hm
      unfold Cls.May at this
      by_cases h : len < 0 ∨ (if c.a = 0 then (0 : Int) else 1024) < len
      · rw [if_pos h]; exact ⟨by omega, by omega⟩
      · rw [if_neg h]
        show 0 ≤ 1 + c.r + c.w + len ∧ 1 + c.r + c.w + len ≤ 65536
        by_cases h0 : c.a = 0
        · rw [if_pos h0] at h; omega
        · rw [if_neg h0] at h; omega
    · rw [if_neg hm]; exact ⟨by omega, by omega⟩
  | none =>
    simp only
    by_cases hk : k = 0
    · rw [if_pos hk]
      by_cases h : len < 0 ∨ 65535 < len
      · rw [if_pos h]; exact ⟨by omega, by omega⟩
      · rw [if_neg h]
        show 0 ≤ 1 + len ∧ 1 + len ≤ 65536
        omega
    · rw [if_neg hk]; exact ⟨by omega, by omega⟩

theorem objC_eq (S : List Cls) (k len : Int) : objC S k len = if fndB S k = true ∧ (sizeP S k len).2 = 0 then some (fndV S k) else none := by
  unfold objC fndB fndV
  cases fndC S k with
  | none => simp
  | some c => simp

theorem find_any (a : Option Addr) (n cp : Nat) (S : List Cls) (k : Int) (w : World) (h : RdS 3 Qcl w a n S) :
    Calls Try.prog 25 #[.slice a n cp, .int .i64 k] w fun e w' => e = .returned (.tuple #[.agg #[.int .i64 (fndV S k).r, .int .i64 (fndV S k).w, .int .i64 (fndV S k).a], .bool (fndB S k)]) ∧ Fr (fun _ => False) w w' := by
  cases hc : fndC S k with
  | none =>
    have := find_none a n cp S k w h hc
    simpa [fndV, fndB, hc, zCls] using this
  | some c =>
    have := find_some a n cp S k c w h hc
    simpa [fndV, fndB, hc] using this

theorem isRef_any (c : Cls) (i : Int) (w : World) :
    Calls Try.prog 27 #[.agg #[.int .i64 c.r, .int .i64 c.w, .int .i64 c.a], .int .i64 i] w fun e w' => e = .returned (.bool (isRefB c i)) ∧ Fr (fun _ => False) w w' := by
  obtain ⟨r, wd, ar⟩ := c
  simp only
  by_cases h1 : ar = 1
  · subst h1
    have e : isRefB ⟨r, wd, 1⟩ i = true := by simp [isRefB]
    rw [e]; clear e
    go_enter Try.func27, Try.ntmps27
    go_wp2
    go_ret
    exact ⟨rfl, (Fr.refl _ w).alloc _⟩
  · have hb1 : (ar == 1) = false := by simpa using h1
    by_cases h0 : ar = 0
    · subst h0
      by_cases hi : i ≤ r
      · have e : isRefB ⟨r, wd, 0⟩ i = true := by simp [isRefB, hi]
        rw [e]; clear e h1
        go_enter Try.func27, Try.ntmps27
        go_wp2
        go_ret
        exact ⟨rfl, (Fr.refl _ w).alloc _⟩
      · have e : isRefB ⟨r, wd, 0⟩ i = false := by simp [isRefB, hi]
        rw [e]; clear e h1
        go_enter Try.func27, Try.ntmps27
        go_wp2
        go_ret
        exact ⟨rfl, (Fr.refl _ w).alloc _⟩
    · have hb0 : (ar == 0) = false := by simpa using h0
      have e : isRefB ⟨r, wd, ar⟩ i = false := by simp [isRefB, h1, h0]
      rw [e]; clear e h1 h0
      go_enter Try.func27, Try.ntmps27
      go_wp2
      go_ret
      exact ⟨rfl, (Fr.refl _ w).alloc _⟩

/-- an answer that is a list in new memory -/
def OutL (w : World) (L : List Int) (e : Ending) (w' : World) : Prop := ∃ v, e = .returned v ∧ w'.ownsRow w.heap.size 3 1 v L.length (L.map (.int .i64)) ∧ Fr (fun _ => False) w w'

theorem Fr.low {w0 w w' : World} {B : Nat} (h : Fr (fun _ => False) w w') (hB : w.heap.size = B) : Fr (fun k => B ≤ k) w w' := h.mono (fun _ _ h => h.elim)

theorem refs_bound {c : Cls} {j : Nat} (h : j ≤ 65536) : (refsUp c j).length + 1 ≤ 70000 := by have := refsUp_le c j; omega

set_option maxHeartbeats 1000000 in
theorem c_Refs (a : Option Addr) (n cp : Nat) (S : List Cls) (k len : Int) (w : World) (h : RdS 3 Qcl w a n S) (hlen : I64 len) :
    Calls Try.prog 15 #[.slice a n cp, .int .i64 k, .int .i64 len] w (OutL w (refsL S k len)) := by
  have hb := size_bd S k len
  have hsz := c_Size a n cp S k len w h hlen
  have HZ := Lib.hid hsz
  have hf := fun w' (f : Fr (fun _ => False) w w') => find_any a n cp S k w' (h.fr f)
  have HF := Lib.hid hf
  have ho := objC_eq S k len
  have hL : refsL S k len = match objC S k len with | some c => refsUp c ((sizeP S k len).1 - 1).toNat | none => [] := rfl
  rw [hL, ho]
  clear hsz hf ho hL h
  obtain ⟨hb1, hb2⟩ := hb
  generalize (sizeP S k len).1 = sz at *
  generalize (sizeP S k len).2 = se at *
  generalize fndV S k = c at *
  generalize fndB S k = ib at *
  obtain ⟨i0, hi, hz0, hz1, hz2⟩ := info_parts info_int
  by_cases hse : se = 0
  · subst hse
    cases ib with
    | true =>
      rw [if_pos ⟨rfl, rfl⟩]
      simp only
      obtain ⟨m, hm⟩ : ∃ m, m = (sz - 1).toNat := ⟨_, rfl⟩
      rw [← hm]
      have HMM := Lib.hid hm
      clear hm
      have hr := fun i w => isRef_any c i w
      have HR := Lib.hid hr
      clear hr
      obtain ⟨r, wd, ar⟩ := c
      simp only at HF HR
      go_enter Try.func15, Try.ntmps15
      go_wp2_with fail
      refine HZ.out.mono ?_
      rintro e w1 ⟨rfl, f1⟩
      go_wp2_with fail
      refine (HF.out _ f1).mono ?_
      rintro e w2 ⟨rfl, f2⟩
      have G2 := (f1.trans f2).alloc (.cells #[.int .i64 r, .int .i64 wd, .int .i64 ar] 47)
      have hs2 := (f1.trans f2).size
      have hblk := Blk.new w2 47 [.int .i64 r, .int .i64 wd, .int .i64 ar]
      have HBK := Lib.hid hblk
      clear HZ HF f1 f2 hblk
      go_wp2_with fail
      go_loopw [11, 12] (fun v i wr => ∃ j : Nat, i = .int .i64 ((j : Int) + 1) ∧ (j : Int) ≤ 65536 ∧ ((j : Int) + 1 ≤ sz ∨ (j = 0 ∧ sz = 0)) ∧ wr.ownsRow (w2.heap.size + 1) 3 1 v (refsUp ⟨r, wd, ar⟩ j).length ((refsUp ⟨r, wd, ar⟩ j).map (.int .i64)) ∧ Blk wr w2.heap.size 47 [.int .i64 r, .int .i64 wd, .int .i64 ar] ∧ Fr (fun _ => False) w wr ∧ w2.heap.size + 1 ≤ wr.heap.size)
        (fun _ i _ => (sz - intOf i).toNat)
      case atStart => exact ⟨0, rfl, by omega, by omega, World.ownsRow_nil _ _ _ _, HBK.out, G2, by simp⟩
      case round =>
        obtain ⟨j, rfl, hj, hjs, hown, hbk, G, hsz2⟩ := hrel
        have hc0 := hbk.cell 0
        have hc1 := hbk.cell 1
        have hc2 := hbk.cell 2
        have hlen := refs_bound (c := ⟨r, wd, ar⟩) (j := j) (by omega)
        by_cases hlt : (j : Int) + 1 < sz
        · have hstep : refsUp ⟨r, wd, ar⟩ (j + 1) = if isRefB ⟨r, wd, ar⟩ ((j : Int) + 1) then refsUp ⟨r, wd, ar⟩ j ++ [(j : Int) + 1] else refsUp ⟨r, wd, ar⟩ j := rfl
          have HST := Lib.hid hstep
          have HLN := Lib.hid hlen
          clear hstep hlen
          have hx := HR.out ((j : Int) + 1) wr
          have HX := Lib.hid hx
          clear hx
          go_wp2_with fail
          refine HX.out.mono ?_
          rintro e w3 ⟨rfl, f3⟩
          have hown3 := f3.owns hown
          have hbk3 := f3.blk hbk (fun h => h)
          have G3 := G.trans f3
          have hsz3 := f3.size
          have HB3 := Lib.hid hbk3
          clear HX f3 hown hbk G hbk3 hc0 hc1 hc2
          cases hrb : isRefB ⟨r, wd, ar⟩ ((j : Int) + 1) with
          | true =>
            rw [hrb, if_pos rfl] at HST
            clear hrb
            generalize refsUp ⟨r, wd, ar⟩ j = R at *
            go_wp2_with (at_builtin; refine wpList_append_own _ rfl _ _ 31 rfl (w2.heap.size + 1) 3 i0 (.int .i64 0) 1 8 Try.underlying31 hi hz0 hz1 hz2 rfl (by decide) _ _ _ rfl (hown3.alloc _) ⟨w3.heap.size, 0, none⟩ 1 1 [.int .i64 ((j : Int) + 1)] rfl rfl ?c1 ?c2 ?c3 ?c4 ?c5 ?_)
            case c1 =>
              intro i u hu
              match i, hu with
              | 0, hu => simp at hu; subst hu; simp [Addr.add]
            case c2 => intro u hu; simp at hu; subst hu; rfl
            case c3 => have := HLN.out; unfold maxLen; omega
            case c4 => have := HLN.out; omega
            case c5 => simp; omega
            intro v' w4 hown4 hgrow _
            have hg4 := hgrow.size
            have hb4 : Blk w4 w2.heap.size 47 [.int .i64 r, .int .i64 wd, .int .i64 ar] := by
              refine (HB3.out.alloc _).of_eq (hgrow.block _ ?_ ?_)
              · have := HB3.out.lt; simp; omega
              · intro he
                have := hown3.lt _ he.symm
                omega
            have G4 := (G3.alloc (.cells #[.int .i64 ((j : Int) + 1)] 3)).grown hgrow (fun k hk => .inr (by have := hown3.lt _ hk; have := G2.size; simp at this; omega))
            have H4 := Lib.hid hb4
            have HO4 := Lib.hid hown4
            clear hb4 hown4 hgrow hown3
            go_wp2
            go_roundw
            case rel =>
              refine ⟨j + 1, by go_num, by omega, by omega, ?_, H4.out, G4, by simp at hg4; omega⟩
              rw [HST.out]
              simpa using HO4.out
            case measure => simp [intOf]; omega
          | false =>
            rw [hrb, if_neg (by simp)] at HST
            clear hrb
            have HO3 := Lib.hid hown3
            clear hown3
            go_wp2
            go_roundw
            case rel => exact ⟨j + 1, by go_num, by omega, by omega, by rw [HST.out]; exact HO3.out, HB3.out, G3, by omega⟩
            case measure => simp [intOf]; omega
        · go_wp2
          go_ret
          have hs2' := G2.size
          simp at hs2'
          have hjj : m = j := by have := HMM.out; omega
          subst hjj
          exact ⟨_, rfl, owns_low hown (by omega), G⟩
    | false =>
      rw [if_neg (by simp)]
      simp only
      obtain ⟨r, wd, ar⟩ := c
      simp only at HF
      go_enter Try.func15, Try.ntmps15
      go_wp2_with fail
      refine HZ.out.mono ?_
      rintro e w1 ⟨rfl, f1⟩
      go_wp2_with fail
      refine (HF.out _ f1).mono ?_
      rintro e w2 ⟨rfl, f2⟩
      have G2 := (f1.trans f2).alloc (.cells #[.int .i64 r, .int .i64 wd, .int .i64 ar] 47)
      clear HZ HF f1 f2
      go_wp2_with fail
      go_loopw [11, 12] (fun v i wr => v = .slice none 0 0 ∧ i = .int .i64 1 ∧ Fr (fun _ => False) w wr) (fun _ _ _ => 0)
      case atStart => exact ⟨rfl, rfl, G2⟩
      case round =>
        obtain ⟨rfl, rfl, G⟩ := hrel
        go_wp2
        all_goals
          go_ret
          exact ⟨_, rfl, World.ownsRow_nil _ _ _ _, G⟩
  · have hseb : (se == 0) = false := by simpa using hse
    rw [if_neg (fun h => hse h.2)]
    simp only
    clear hse
    obtain ⟨r, wd, ar⟩ := c
    simp only at HF
    go_enter Try.func15, Try.ntmps15
    go_wp2_with fail
    refine HZ.out.mono ?_
    rintro e w1 ⟨rfl, f1⟩
    go_wp2_with fail
    refine (HF.out _ f1).mono ?_
    rintro e w2 ⟨rfl, f2⟩
    have G2 := (f1.trans f2).alloc (.cells #[.int .i64 r, .int .i64 wd, .int .i64 ar] 47)
    clear HZ HF f1 f2
    go_wp2_with fail
    go_loopw [11, 12] (fun v i wr => v = .slice none 0 0 ∧ i = .int .i64 1 ∧ Fr (fun _ => False) w wr) (fun _ _ _ => 0)
    case atStart => exact ⟨rfl, rfl, G2⟩
    case round =>
      obtain ⟨rfl, rfl, G⟩ := hrel
      go_wp2
      all_goals
        go_ret
        exact ⟨_, rfl, World.ownsRow_nil _ _ _ _, G⟩

theorem fnd_r {S : List Cls} {k len : Int} (h : objC S k len ≠ none) : 1 ≤ k := by
  unfold objC fndC at h
  by_cases hk : 1 ≤ k
  · exact hk
  · rw [if_neg hk] at h; exact absurd rfl h
theorem fnd_at {S : List Cls} {k : Int} {c : Cls} (hk : 1 ≤ k) (h : fndC S k = some c) : S[k.toNat - 1]? = some c := by rw [fndC, if_pos hk] at h; exact h
theorem objC_some {S : List Cls} {k len : Int} {c : Cls} (h : objC S k len = some c) : fndC S k = some c ∧ mayB c = true ∧ (sizeP S k len).2 = 0 := by
  unfold objC at h
  cases hf : fndC S k with
  | none => rw [hf] at h; cases h
  | some c' =>
    rw [hf] at h
    simp only at h
    split at h
    · rename_i hh; cases h; exact ⟨rfl, hh⟩
    · cases h
/-- without an object that may be: an error, or class 0 -/
theorem objC_none {S : List Cls} {k len : Int} (h : objC S k len = none) : ¬ (sizeP S k len).2 = 0 ∨ k = 0 := by
  unfold objC at h
  cases hf : fndC S k with
  | none =>
    by_cases hk : k = 0
    · exact .inr hk
    · left; unfold sizeP; rw [hf]; simp [hk]
  | some c =>
    rw [hf] at h
    simp only at h
    split at h
    · cases h
    · rename_i hh
      left
      by_cases hm : mayB c = true
      · exact fun h0 => hh ⟨hm, h0⟩
      · unfold sizeP; rw [hf]; simp [hm]

set_option maxHeartbeats 1000000 in
theorem r_Refs (a : Option Addr) (n cp : Nat) (S : List Cls) (k len : Int) (w : World) (h : RdS 3 Qcl w a n S) (hlen : I64 len) :
    Calls Try.prog 23 #[.slice a n cp, .int .i64 k, .int .i64 len] w (OutL w (refsL S k len)) := by
  have hb := size_bd S k len
  have hsz := r_Size a n cp S k len w h hlen
  have HZ := Lib.hid hsz
  have hn := h.le
  unfold maxLen at hn
  obtain ⟨hb1, hb2⟩ := hb
  obtain ⟨i0, hi, hz0, hz1, hz2⟩ := info_parts info_int
  cases ho : objC S k len with
  | none =>
    have er : refsL S k len = [] := by rw [refsL, ho]
    rw [er]
    have hx := objC_none ho
    clear er ho hsz h
    generalize (sizeP S k len).1 = sz at *
    generalize (sizeP S k len).2 = se at *
    have hx' : (se == 0) = false ∨ k = 0 := hx.imp (fun h => by simpa using h) id
    clear hx
    rcases hx' with hx | rfl
    all_goals
      go_enter Try.func23, Try.ntmps23
      go_wp2_with fail
      refine HZ.out.mono ?_
      rintro e w1 ⟨rfl, f1⟩
      go_wp2_with fail
      go_loopw [7, 10] (fun v i wr => v = .slice none 0 0 ∧ i = .int .i64 1 ∧ Fr (fun _ => False) w wr) (fun _ _ _ => 0)
      case atStart => exact ⟨rfl, rfl, f1⟩
      case round =>
        obtain ⟨rfl, rfl, G⟩ := hrel
        go_wp2
        all_goals
          go_ret
          exact ⟨_, rfl, World.ownsRow_nil _ _ _ _, G⟩
  | some c =>
    obtain ⟨hf, hm, hz⟩ := objC_some ho
    have hk : 1 ≤ k := fnd_r (by rw [ho]; simp)
    have hat := fnd_at hk hf
    have hlt := lt_of_get hat
    have hkn : k ≤ (n : Int) := by have := h.hlen; omega
    have hL : refsL S k len = refsUp c ((sizeP S k len).1 - 1).toNat := by rw [refsL, ho]
    rw [hL]
    rw [hz] at HZ
    have HAT := Lib.hid hat
    clear hsz hL hz hf ho hat hlt
    generalize (sizeP S k len).1 = sz at *
    obtain ⟨m, hmm⟩ : ∃ m, m = (sz - 1).toNat := ⟨_, rfl⟩
    rw [← hmm]
    have HMM := Lib.hid hmm
    clear hmm
    have hmay := May_of hm
    have hca : c.a = 0 ∨ c.a = 1 ∨ c.a = 2 := by unfold Cls.May at hmay; omega
    clear hm hmay
    go_enter Try.func23, Try.ntmps23
    go_wp2_with fail
    refine HZ.out.mono ?_
    rintro e w1 ⟨rfl, f1⟩
    have hs1 := f1.size
    go_wp2_with fail
    go_loopw [7, 10] (fun v i wr => ∃ j : Nat, i = .int .i64 ((j : Int) + 1) ∧ (j : Int) ≤ 65536 ∧ ((j : Int) + 1 ≤ sz ∨ (j = 0 ∧ sz = 0)) ∧ wr.ownsRow w.heap.size 3 1 v (refsUp c j).length ((refsUp c j).map (.int .i64)) ∧ Fr (fun _ => False) w wr ∧ w.heap.size ≤ wr.heap.size)
      (fun _ i _ => (sz - intOf i).toNat)
    case atStart => exact ⟨0, rfl, by omega, by omega, World.ownsRow_nil _ _ _ _, f1, hs1⟩
    case round =>
      obtain ⟨j, rfl, hj, hjs, hown, G, hsz2⟩ := hrel
      have hlen := refs_bound (c := c) (j := j) (by omega)
      by_cases hlt : (j : Int) + 1 < sz
      · have hstep : refsUp c (j + 1) = if isRefB c ((j : Int) + 1) then refsUp c j ++ [(j : Int) + 1] else refsUp c j := rfl
        have HLN := Lib.hid hlen
        clear hlen
        obtain ⟨b, off, rfl, hbb, c0, c1, c2, r0, r1, r2⟩ := (h.fr G).cls HAT.out
        clear r0 r1 r2
        generalize hR : refsUp c j = R at *
        have hcase : (c.a = 1 ∧ isRefB c ((j : Int) + 1) = true) ∨ (c.a = 0 ∧ (j : Int) + 1 ≤ c.r ∧ isRefB c ((j : Int) + 1) = true) ∨ (c.a = 0 ∧ c.r < (j : Int) + 1 ∧ isRefB c ((j : Int) + 1) = false) ∨ (c.a = 2 ∧ isRefB c ((j : Int) + 1) = false) := by
          unfold isRefB
          rcases hca with e | e | e
          · by_cases h1 : (j : Int) + 1 ≤ c.r
            · right; left; exact ⟨e, h1, by simp [e, h1]⟩
            · right; right; left; exact ⟨e, by omega, by simp [e]; omega⟩
          · left; exact ⟨e, by simp [e]⟩
          · right; right; right; exact ⟨e, by simp [e]⟩
        obtain ⟨r, wd, ar⟩ := c
        simp only at c0 c1 c2 hca hcase
        clear hR
        rcases hcase with ⟨rfl, hrb⟩ | ⟨rfl, hjr, hrb⟩ | ⟨rfl, hjr, hrb⟩ | ⟨rfl, hrb⟩
        · rw [hrb, if_pos rfl] at hstep
          have HST := Lib.hid hstep
          clear hstep hrb hca
          go_wp2_with (at_builtin; refine wpList_append_own _ rfl _ _ 31 rfl w.heap.size 3 i0 (.int .i64 0) 1 8 Try.underlying31 hi hz0 hz1 hz2 rfl (by decide) _ _ _ rfl ((hown.alloc _).alloc _) ⟨wr.heap.size + 1, 0, none⟩ 1 1 [.int .i64 ((j : Int) + 1)] rfl rfl ?_ ?_ ?_ ?_ ?_ ?_)
          case refine_1 =>
            intro i u hu
            match i, hu with
            | 0, hu => simp at hu; subst hu; simp [Addr.add]
          case refine_2 => intro u hu; simp at hu; subst hu; rfl
          case refine_3 => have := HLN.out; unfold maxLen; omega
          case refine_4 => have := HLN.out; omega
          case refine_5 => simp; omega
          intro v' w4 hown4 hgrow _
          have hg4 := hgrow.size
          have G4 := ((G.alloc (.cells #[.int .i64 r, .int .i64 wd, .int .i64 1] 37)).alloc (.cells #[.int .i64 ((j : Int) + 1)] 3)).grown hgrow (fun k hk => .inr (hown.lt _ hk).1)
          have HO4 := Lib.hid hown4
          clear hown4 hgrow hown
          go_wp2
          go_roundw
          case rel =>
            refine ⟨j + 1, by go_num, by omega, by omega, ?_, G4, by simp at hg4; omega⟩
            rw [HST.out]
            simpa using HO4.out
          case measure => simp [intOf]; omega
        · rw [hrb, if_pos rfl] at hstep
          have HST := Lib.hid hstep
          clear hstep hrb hca
          go_wp2_with (at_builtin; refine wpList_append_own _ rfl _ _ 31 rfl w.heap.size 3 i0 (.int .i64 0) 1 8 Try.underlying31 hi hz0 hz1 hz2 rfl (by decide) _ _ _ rfl ((hown.alloc _).alloc _) ⟨wr.heap.size + 1, 0, none⟩ 1 1 [.int .i64 ((j : Int) + 1)] rfl rfl ?_ ?_ ?_ ?_ ?_ ?_)
          case refine_1 =>
            intro i u hu
            match i, hu with
            | 0, hu => simp at hu; subst hu; simp [Addr.add]
          case refine_2 => intro u hu; simp at hu; subst hu; rfl
          case refine_3 => have := HLN.out; unfold maxLen; omega
          case refine_4 => have := HLN.out; omega
          case refine_5 => simp; omega
          intro v' w4 hown4 hgrow _
          have hg4 := hgrow.size
          have G4 := ((G.alloc (.cells #[.int .i64 r, .int .i64 wd, .int .i64 0] 37)).alloc (.cells #[.int .i64 ((j : Int) + 1)] 3)).grown hgrow (fun k hk => .inr (hown.lt _ hk).1)
          have HO4 := Lib.hid hown4
          clear hown4 hgrow hown
          go_wp2
          go_roundw
          case rel =>
            refine ⟨j + 1, by go_num, by omega, by omega, ?_, G4, by simp at hg4; omega⟩
            rw [HST.out]
            simpa using HO4.out
          case measure => simp [intOf]; omega
        · rw [hrb, if_neg (by simp)] at hstep
          have HST := Lib.hid hstep
          clear hstep hrb hca
          have HO := Lib.hid hown
          clear hown
          go_wp2
          go_roundw
          case rel => exact ⟨j + 1, by go_num, by omega, by omega, by rw [HST.out]; exact HO.out.alloc _, G.alloc _, by simp; omega⟩
          case measure => simp [intOf]; omega
        · rw [hrb, if_neg (by simp)] at hstep
          have HST := Lib.hid hstep
          clear hstep hrb hca
          have HO := Lib.hid hown
          clear hown
          go_wp2
          go_roundw
          case rel => exact ⟨j + 1, by go_num, by omega, by omega, by rw [HST.out]; exact HO.out.alloc _, G.alloc _, by simp; omega⟩
          case measure => simp [intOf]; omega
      · go_wp2
        go_ret
        have hjj : m = j := by have := HMM.out; omega
        subst hjj
        exact ⟨_, rfl, hown, G⟩
end Go.Proofs.Yteappcepppicoaa
