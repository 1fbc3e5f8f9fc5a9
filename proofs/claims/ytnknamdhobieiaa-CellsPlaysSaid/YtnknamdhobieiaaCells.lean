/- The contracts of package cells (layer 1): each call on memory (W, n) does what the plain functions below say. -/
import Derived.Test.YtnknamdhobieiaaProg
import Derived.Test.YtnknamdhobieiaaH
import Derived.WalkSpells
import Derived.WalkLawsBesides
import Derived.KernelRfl
import Derived.RegionTactic
import Derived.Lib.Hide
import Derived.Deep.DeepMust
namespace Go.Proofs.Ytnknamdhobieiaa
open Go.RowKit Go.HK
set_option maxRecDepth 100000

/-! ### plain words -/
def inR (W : List Int) (at_ : Int) : Prop := 0 ≤ at_ ∧ at_ < W.length
instance (W : List Int) (a : Int) : Decidable (inR W a) := by unfold inR; infer_instance
def ldV (W : List Int) (at_ : Int) : Int := if inR W at_ then W.getD at_.toNat 0 else 0
def okE (W : List Int) (at_ : Int) : Int := if inR W at_ then 0 else 10
def stp (W : List Int) (at_ n : Int) : Int := if inR W at_ then wrap64 (n + 1) else n
def stW (W : List Int) (at_ v : Int) : List Int := if inR W at_ then W.set at_.toNat v else W
def swB (W : List Int) (at_ old : Int) : Bool := decide (inR W at_ ∧ W.getD at_.toNat 0 = old)
def swW (W : List Int) (at_ old new : Int) : List Int := if swB W at_ old then W.set at_.toNat new else W
def adW (W : List Int) (at_ by_ : Int) : List Int := if inR W at_ then W.set at_.toNat (wrap64 (W.getD at_.toNat 0 + by_)) else W

theorem wrap64_idem (n : Int) : wrap64 (wrap64 n) = wrap64 n := by unfold wrap64; omega
theorem stW_len (W : List Int) (at_ v : Int) : (stW W at_ v).length = W.length := by unfold stW; split <;> simp
theorem swW_len (W : List Int) (at_ o v : Int) : (swW W at_ o v).length = W.length := by unfold swW; split <;> simp
theorem adW_len (W : List Int) (at_ v : Int) : (adW W at_ v).length = W.length := by unfold adW; split <;> simp

/-- Memory of the words W, after n accesses: the struct in block p, the words in block q. -/
structure IsCells (w : World) (p q : Nat) (W : List Int) (n : Int) : Prop where
  ne : p ≠ q
  str : Blk w p 54 [.slice (some ⟨q, 0, none⟩) W.length W.length, .int .i64 n]
  row : Blk w q 2 (W.map (.int .i64))
  len : W.length ≤ 65536
  rng : wrap64 n = n

def foot (p q : Nat) : Nat → Prop := fun k => k = p ∨ k = q

section
variable {w w' : World} {p q : Nat} {W : List Int} {n : Int}
theorem IsCells.alloc (h : IsCells w p q W n) (o : Obj) : IsCells (w.alloc o) p q W n := ⟨h.ne, h.str.alloc o, h.row.alloc o, h.len, h.rng⟩
theorem IsCells.drew (h : IsCells w p q W n) : IsCells w.drew p q W n := ⟨h.ne, h.str, h.row, h.len, h.rng⟩
theorem IsCells.fr {S : Nat → Prop} (h : IsCells w p q W n) (k : Fr S w w') (hp : ¬ S p) (hq : ¬ S q) : IsCells w' p q W n :=
  ⟨h.ne, k.blk h.str hp, k.blk h.row hq, h.len, h.rng⟩
theorem IsCells.tick (h : IsCells w p q W n) : IsCells (w.setCell ⟨p, 1, none⟩ (.int .i64 (wrap64 (n + 1)))) p q W (wrap64 (n + 1)) :=
  ⟨h.ne, h.str.set 1 _, h.row.set_other (fun e => h.ne e.symm) _, h.len, wrap64_idem _⟩
theorem IsCells.put (h : IsCells w p q W n) (i : Nat) (v : Int) : IsCells (w.setCell ⟨q, i, none⟩ (.int .i64 v)) p q (W.set i v) n :=
  ⟨h.ne, by have := h.str.set_other (a := ⟨q, i, none⟩) h.ne (.int .i64 v); simpa using this, by have := h.row.set i (.int .i64 v); simpa [List.map_set] using this, by simpa using h.len, h.rng⟩
theorem IsCells.cell (h : IsCells w p q W n) {at_ : Int} (h0 : 0 ≤ at_) (h1 : at_ < W.length) : w.cell? ⟨q, at_.toNat, none⟩ = some (.int .i64 (W.getD at_.toNat 0)) := by
  have : at_.toNat < W.length := by omega
  rw [h.row.cell]; simp [this]
end

theorem mkFunc (fn : Fn) (first cap : Array Value) (w : World) : (Instr.makeFunc fn first cap).run Try.prog w = .ok (.func fn first cap) w := rfl

theorem atomic_add (a : Addr) (n d : Int) (w : World) (hc : w.cell? a = some (.int .i64 n)) (hz : w.frozen? a = false) :
    (callFunc 37 #[.pointer (some a), .int .i64 d]).run Try.prog w = .ok (.value (.int .i64 (wrap64 (n + d)))) (w.setCell a (.int .i64 (wrap64 (n + d)))) :=
  run_call_add (P := Try.prog) Try.func37 (by kernel_rfl) (by kernel_rfl) (by kernel_rfl) .i64 (by kernel_rfl) hc hz (by simp [go_sem, wrap64, IntKind.wrap_i64])

theorem atomic_load (a : Addr) (n : Int) (w : World) (hc : w.cell? a = some (.int .i64 n)) :
    (callFunc 36 #[.pointer (some a)]).run Try.prog w = .ok (.value (.int .i64 n)) w :=
  run_call_load (P := Try.prog) Try.func36 (by kernel_rfl) (by kernel_rfl) (by kernel_rfl) .i64 (by kernel_rfl) hc

/-! ### the closures -/
theorem change_load (bx q i : Nat) (x y v : Int) (w : World) (h1 : Blk w bx 60 [.int .i64 x, .int .i64 y]) (h2 : w.cell? ⟨q, i, none⟩ = some (.int .i64 v)) :
    Calls Try.prog 28 #[.pointer (some ⟨bx, 0, none⟩), .pointer (some ⟨q, i, none⟩)] w fun e w' => e = .returned (.tuple #[]) ∧ w' = w.setCell ⟨bx, 0, none⟩ (.int .i64 v) := by
  have hc := h1.cell 0
  have hf := h1.frz 0
  clear h1
  go_enter Try.func28, Try.ntmps28
  go_wp2
  go_end0
  exact ⟨rfl, rfl⟩

theorem change_store (bx q i : Nat) (x y v : Int) (w : World) (h1 : Blk w bx 60 [.int .i64 x, .int .i64 y]) (h2 : w.cell? ⟨q, i, none⟩ = some (.int .i64 v)) (hz : w.frozen? ⟨q, i, none⟩ = false) :
    Calls Try.prog 33 #[.pointer (some ⟨bx, 0, none⟩), .pointer (some ⟨q, i, none⟩)] w fun e w' => e = .returned (.tuple #[]) ∧ w' = w.setCell ⟨q, i, none⟩ (.int .i64 y) := by
  have hc := h1.cell 1
  clear h1
  go_enter Try.func33, Try.ntmps33
  go_wp2
  go_end0
  exact ⟨rfl, rfl⟩

theorem change_add (bx q i : Nat) (x y v : Int) (w : World) (hne : bx ≠ q) (h1 : Blk w bx 60 [.int .i64 x, .int .i64 y]) (h2 : w.cell? ⟨q, i, none⟩ = some (.int .i64 v)) (hz : w.frozen? ⟨q, i, none⟩ = false) :
    Calls Try.prog 31 #[.pointer (some ⟨bx, 0, none⟩), .pointer (some ⟨q, i, none⟩)] w fun e w' => e = .returned (.tuple #[]) ∧
      w' = ((w.setCell ⟨bx, 0, none⟩ (.int .i64 v)).setCell ⟨q, i, none⟩ (.int .i64 (wrap64 (v + y)))).drew := by
  have hc := h1.cell 0
  have hc1 := h1.cell 1
  have hf := h1.frz 0
  clear h1
  go_enter Try.func31, Try.ntmps31
  go_wp2
  go_region
  go_end0
  exact ⟨rfl, rfl⟩
end Go.Proofs.Ytnknamdhobieiaa
