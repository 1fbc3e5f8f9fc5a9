/- Programs as they lie in memory; which may be (plain). -/
import Derived.Test.YtobghplhoeangaaCk1
import Derived.Test.YtobghplhoeangaaCk2
namespace Go.Proofs.Ytobghplhoeangaa
open Go.RowKit Go.HK
set_option maxRecDepth 100000

structure Prg where
  S : List Cls
  F : List (List Ins)
  refs : Int
  ints : Int

/-- one cell: a slice of instructions -/
def Qfn (w : World) (l : List Value) (F : List Ins) : Prop := ∃ (a : Option Addr) (n cp : Nat), l = [.slice a n cp] ∧ RdS 5 Qin w a n F
theorem RdS.fr' {α : Type} {s : Nat} {Q : List Value → α → Prop} {w w' : World} {a : Option Addr} {n : Nat} {S : List α} {Z : Nat → Prop} (h : RdS s Q w a n S) (k : Fr Z w w') (hz : ∀ b off, 0 < n → a = some ⟨b, off, none⟩ → ¬ Z b) : RdS s Q w' a n S :=
  ⟨h.hlen, h.le, fun h0 => by
    obtain ⟨b, off, e, h1, h2⟩ := h.at_ h0
    refine ⟨b, off, e, Nat.lt_of_lt_of_le h1 k.size, fun i y hy => ?_⟩
    obtain ⟨cs, h3, h4, h5⟩ := h2 i y hy
    exact ⟨cs, h3, h4, fun j u hu => k.cell (h5 j u hu) (hz b off h0 e)⟩⟩
theorem RdS.mapQ {α : Type} {s : Nat} {Q Q' : List Value → α → Prop} {w : World} {a : Option Addr} {n : Nat} {S : List α} (h : RdS s Q w a n S) (hq : ∀ l y, Q l y → Q' l y) : RdS s Q' w a n S :=
  ⟨h.hlen, h.le, fun h0 => by
    obtain ⟨b, off, e, h1, h2⟩ := h.at_ h0
    refine ⟨b, off, e, h1, fun i y hy => ?_⟩
    obtain ⟨cs, h3, h4, h5⟩ := h2 i y hy
    exact ⟨cs, h3, hq _ _ h4, h5⟩⟩

structure IsPrg (w : World) (ac : Option Addr) (nc : Nat) (af : Option Addr) (nf : Nat) (p : Prg) : Prop where
  cls : RdS 3 Qcl w ac nc p.S
  fns : RdS 1 (Qfn w) w af nf p.F
  r1 : I64 p.refs
  r2 : I64 p.ints
theorem IsPrg.fr {w w' : World} {ac : Option Addr} {nc : Nat} {af : Option Addr} {nf : Nat} {p : Prg} (h : IsPrg w ac nc af nf p) (k : Fr (fun _ => False) w w') : IsPrg w' ac nc af nf p :=
  ⟨h.cls.fr k, (h.fns.fr k).mapQ (fun l F ⟨a, n, cp, e, h⟩ => ⟨a, n, cp, e, h.fr k⟩), h.r1, h.r2⟩

/-- function f -/
theorem IsPrg.fn {w : World} {ac : Option Addr} {nc : Nat} {af : Option Addr} {nf : Nat} {p : Prg} (h : IsPrg w ac nc af nf p) {f : Nat} {F : List Ins} (hF : p.F[f]? = some F) :
    ∃ b off a n cp, af = some ⟨b, off, none⟩ ∧ w.cell? ⟨b, off + f, none⟩ = some (.slice a n cp) ∧ RdS 5 Qin w a n F := by
  have hi := lt_of_get hF
  obtain ⟨b, off, e, _, hcs⟩ := h.fns.at_ (by rw [← h.fns.hlen]; omega)
  obtain ⟨cs, _, ⟨a, n, cp, rfl, hr⟩, hcell⟩ := hcs f F hF
  have := hcell 0 _ rfl
  rw [Nat.mul_one, Nat.add_zero] at this
  exact ⟨b, off, a, n, cp, e, this, hr⟩

/-- instruction k -/
theorem RdS.ins {w : World} {a : Option Addr} {n : Nat} {F : List Ins} (h : RdS 5 Qin w a n F) {k : Nat} {x : Ins} (hx : F[k]? = some x) :
    ∃ b off, a = some ⟨b, off, none⟩ ∧ b < w.heap.size ∧ (∀ (j : Nat) u, x.cells[j]? = some u → w.cell? ⟨b, off + k * 5 + j, none⟩ = some u) ∧ x.rng := by
  have hi := lt_of_get hx
  obtain ⟨b, off, e, h1, hcs⟩ := h.at_ (by rw [← h.hlen]; omega)
  obtain ⟨cs, _, ⟨rfl, hr⟩, hcell⟩ := hcs k x hx
  exact ⟨b, off, e, h1, hcell, hr⟩

/-- may instruction x stand at place k of function F? -/
def okAt (p : Prg) (F : List Ins) (k : Nat) (x : Ins) : Bool := insB p.S F.length p.refs p.ints p.F.length x && (decide (k + 1 ≠ F.length) || lastB x)
/-- the first one from place k on that may not -/
def badK (p : Prg) (F : List Ins) : Nat → List Ins → Option Nat
  | _, [] => none
  | k, x :: r => if okAt p F k x = true then badK p F (k + 1) r else some k
def badF (p : Prg) : Nat → List (List Ins) → Int × Int × Int
  | _, [] => (0, 0, 0)
  | f, F :: r => if F.length < 1 ∨ 256 < F.length then (f, 0, 19) else match badK p F 0 F with
    | some k => (f, k, 19)
    | none => badF p (f + 1) r
def headOK (p : Prg) : Prop := chkE p.S = 0 ∧ 1 ≤ p.F.length ∧ p.F.length ≤ 16 ∧ 0 ≤ p.refs ∧ p.refs ≤ 16 ∧ 0 ≤ p.ints ∧ p.ints ≤ 16
instance (p : Prg) : Decidable (headOK p) := by unfold headOK; infer_instance
def progP (p : Prg) : Int × Int × Int := if headOK p then badF p 0 p.F else (-1, 0, 19)

theorem badK_at (p : Prg) (F : List Ins) (k : Nat) (x : Ins) (hx : F[k]? = some x) : badK p F k (F.drop k) = if okAt p F k x = true then badK p F (k + 1) (F.drop (k + 1)) else some k := by
  have hk := lt_of_get hx
  rw [List.drop_eq_getElem_cons hk]
  have e : F[k] = x := by rw [List.getElem?_eq_getElem hk] at hx; exact Option.some.inj hx
  rw [e]; rfl
theorem badK_end (p : Prg) (F : List Ins) : badK p F F.length (F.drop F.length) = none := by rw [List.drop_length]; rfl
theorem badF_at (p : Prg) (f : Nat) (F : List Ins) (hF : p.F[f]? = some F) : badF p f (p.F.drop f) = if F.length < 1 ∨ 256 < F.length then ((f : Int), (0 : Int), (19 : Int)) else match badK p F 0 F with
    | some k => ((f : Int), (k : Int), (19 : Int))
    | none => badF p (f + 1) (p.F.drop (f + 1)) := by
  have hk := lt_of_get hF
  rw [List.drop_eq_getElem_cons hk]
  have e : p.F[f] = F := by rw [List.getElem?_eq_getElem hk] at hF; exact Option.some.inj hF
  rw [e]; rfl
theorem badF_end (p : Prg) : badF p p.F.length (p.F.drop p.F.length) = (0, 0, 0) := by rw [List.drop_length]; rfl
theorem chk_16 {S : List Cls} (h : chkE S = 0) : S.length ≤ 16 := by
  unfold chkE at h
  split at h
  · rename_i h1; exact h1.1
  · cases h
def tri (r : Int × Int × Int) : Value := .tuple #[.int .i64 r.1, .int .i64 r.2.1, .int .i64 r.2.2]
end Go.Proofs.Ytobghplhoeangaa
