/- Small lemmas used by the walks of this seat. -/
import Derived.Test.YtehcimecmbcdfaaRows
import Derived.WalkKit
import Derived.WalkSpells
import Derived.WalkLawsBesides
import Derived.Lib.Hide
import Derived.Deep.QuietTactic
import Derived.BigQuiet
import Derived.Deep.RegionHeld3
import Derived.Deep.LoopGhost
import Derived.Maps.AppendAt
import Derived.KernelRfl
namespace Go.Proofs.Ytehcimecmbcdfaa
open Go.RowKit

/-- all cells of blocks below the old size read as before -/
def Same1 (W w1 : World) : Prop := ∀ b o, b < W.heap.size → w1.cell? ⟨b, o, none⟩ = W.cell? ⟨b, o, none⟩
theorem bcell {W w1 : World} (hb : Below W.heap.size W w1) : (∀ b o, b < W.heap.size → w1.cell? ⟨b, o, none⟩ = W.cell? ⟨b, o, none⟩) ∧ (∀ b o, b < W.heap.size → w1.frozen? ⟨b, o, none⟩ = W.frozen? ⟨b, o, none⟩) :=
  ⟨fun b o h => hb.cell (p := ⟨b, o, none⟩) h, fun b o h => hb.frozen (p := ⟨b, o, none⟩) h⟩
theorem bl1 {w : World} (o : Obj) : Below w.heap.size w (w.alloc o) := (Below.refl _ _).alloc (Nat.le_refl _) _
theorem bl_tr {w w1 w2 : World} (h : Below w.heap.size w w1) (k : Below w1.heap.size w1 w2) : Below w.heap.size w w2 :=
  h.trans (k.mono h.size)
theorem bl_drewN {B : Nat} {w W : World} (h : Below B w W) (n : Nat) : Below B w (W.drewN n) := ⟨h.os, h.tape, h.output, h.size, h.block⟩
theorem bl_tr' {w w1 w2 : World} (k : Hid (Below w1.heap.size w1 w2)) (h : Below w.heap.size w w1) : Below w.heap.size w w2 := bl_tr h k
theorem bl_drew {B : Nat} {w W : World} (h : Below B w W) : Below B w W.drew := h.drew
theorem bl_alloc {w W : World} (h : Below w.heap.size w W) (o : Obj) : Below w.heap.size w (W.alloc o) := h.alloc h.size o

theorem keepc {W w1 : World} {p : Addr} {v : Value} (h : Hid (Below W.heap.size W w1)) (hc : W.cell? p = some v) : w1.cell? p = some v :=
  (h.out.cell (World.block_lt_of_cell? W p hc)).trans hc
/-- a call that returns one known value and leaves what was there -/
theorem use_b {P : Program} {n : FuncId} {args : Array Value} {W : World} {v : Value} {R : Ending → World → Prop}
    (h : Calls P n args W (fun e w' => e = .returned v ∧ Below W.heap.size W w'))
    (k : ∀ w1, Hid (Below W.heap.size W w1) → R (.returned v) w1) :
    Calls P n args W R :=
  h.mono fun e w1 ⟨he, hb⟩ => by subst he; exact k w1 hb
theorem ret_t1 {k : IntKind} {a a' : Int} (h : a = a') : Ending.returned (.int k a) = Ending.returned (.int k a') := by rw [h]
theorem ret_b {a a' : Bool} (h : a = a') : Ending.returned (.bool a) = Ending.returned (.bool a') := by rw [h]
theorem ret_t2 {k l : IntKind} {a a' b b' : Int} (h : a = a') (h2 : b = b') : Ending.returned (.tuple #[.int k a, .int l b]) = Ending.returned (.tuple #[.int k a', .int l b']) := by rw [h, h2]
theorem ret_t3 {k l m : IntKind} {a a' b b' c c' : Int} (h : a = a') (h2 : b = b') (h3 : c = c') : Ending.returned (.tuple #[.int k a, .int l b, .int m c]) = Ending.returned (.tuple #[.int k a', .int l b', .int m c']) := by rw [h, h2, h3]
end Go.Proofs.Ytehcimecmbcdfaa
