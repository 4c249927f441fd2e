/- Contracts: the reference's bytes of a code (ref19.natural, how, Encode). -/
import Derived.Test.YtehcimecmbcdfaaXPackE
set_option linter.unusedSimpArgs false
set_option linter.unusedVariables false
namespace Go.Proofs.Ytehcimecmbcdfaa
open Go.RowKit

set_option maxHeartbeats 400000 in
theorem rNatural_any (n : Int) (w : World) (h : I64 n) :
    Calls Try.prog 67 #[.int .i64 n] w (OwnPost w 5 .u8 (natL n)) := by
  obtain ⟨h1, h2⟩ := h
  by_cases h0 : n < 0
  · have e := Lib.hid (show natL n = [] by unfold natL; rw [if_pos h0])
    go_enter Try.func67, Try.ntmps67
    go_wp2_with (go_at_call 23; refine use_b (rUint_no n _ h0) ?_; intro w1 hb1)
    go_ret
    exact ⟨_, rfl, by rw [e.out]; exact OwI.nil _ _ _ _, hb1.out⟩
  · obtain ⟨m, rfl⟩ := Int.eq_ofNat_of_zero_le (show 0 ≤ n by omega)
    have e := Lib.hid (natL_nat m)
    go_enter Try.func67, Try.ntmps67
    go_wp2_with (go_at_call 23; refine use_own2 (rUint_yes m _ (by omega)) ?_; intro v1 w1 hb1 ho1)
    go_ret
    exact ⟨_, rfl, by rw [e.out]; exact ho1.out, hb1.out⟩
def howN (op : Int) : Int := if op = 1 ∨ op = 32 then 1 else if op = 2 ∨ op = 3 ∨ op = 29 ∨ op = 30 then 2 else if op = 31 then 3 else if op = 33 then 4 else 0
theorem how_any (op : Int) (w : World) :
    Calls Try.prog 69 #[.int .i64 op] w fun e w' => e = .returned (.int .i64 (howN op)) ∧ Below w.heap.size w w' := by
  by_cases h : op = 1 ∨ op = 32 ∨ op = 2 ∨ op = 3 ∨ op = 29 ∨ op = 30 ∨ op = 31 ∨ op = 33
  · rcases h with rfl | rfl | rfl | rfl | rfl | rfl | rfl | rfl
    all_goals
      go_enter Try.func69, Try.ntmps69
      go_wp2
      go_ret
      exact ⟨rfl, by repeat (first | exact Below.refl _ _ | apply bl_alloc | apply bl_drew | apply bl_drewN | (refine bl_tr' (by assumption) ?_))⟩
  · have e := Lib.hid (show (0 : Int) = howN op by unfold howN; rw [if_neg (by omega), if_neg (by omega), if_neg (by omega), if_neg (by omega)])
    have b1 : (op == 1) = false := by rw [beq_eq_false_iff_ne]; omega
    have b2 : (op == 2) = false := by rw [beq_eq_false_iff_ne]; omega
    have b3 : (op == 3) = false := by rw [beq_eq_false_iff_ne]; omega
    have b29 : (op == 29) = false := by rw [beq_eq_false_iff_ne]; omega
    have b30 : (op == 30) = false := by rw [beq_eq_false_iff_ne]; omega
    have b31 : (op == 31) = false := by rw [beq_eq_false_iff_ne]; omega
    have b32 : (op == 32) = false := by rw [beq_eq_false_iff_ne]; omega
    have b33 : (op == 33) = false := by rw [beq_eq_false_iff_ne]; omega
    clear h
    go_enter Try.func69, Try.ntmps69
    go_wp2
    go_ret
    exact ⟨ret_t1 e.out, by repeat (first | exact Below.refl _ _ | apply bl_alloc | apply bl_drew | apply bl_drewN | (refine bl_tr' (by assumption) ?_))⟩
theorem blk_grown {w w1 : World} {g : Nat} {cs : Array Value} {T E : TypeId} {fr : Nat × Nat} {base : Nat} {k : IntKind} {v : Value} {l : List Int} (hb : w.heap[g]? = some (.cells cs T fr)) (ho : OwI w base E k v l) (hT : T ≠ E) (hg : w.grownBy w1 v.ownBlock) : w1.heap[g]? = some (.cells cs T fr) :=
  (hg.block g (blk_lt hb) (fun e => ho.ne hb hT e.symm)).trans hb
set_option maxHeartbeats 400000 in
theorem rEnc_no (f d : Int) (A : Option Addr) (c N : Nat) (l : List Ins) (out : Int) (w : World) (hr : RdN w A l) (hN : l.length = N) (hw : wfL l) (hm : mayC f d l out = false) :
    Calls Try.prog 42 #[.agg #[.int .i64 f, .int .i64 d, .slice A N c, .int .i64 out]] w (OwnPost2 w 5 .u8 [] 15) := by
  have hc := fun W h => Lib.hid (rMayC_any f d A c N l out W h hN hw)
  rw [hm] at hc
  have HR := Lib.hid hr
  clear hm hN hw hr
  go_enter Try.func42, Try.ntmps42
  go_wp2_with (go_at_call 66; refine use_b (hc _ (HR.out.below (bl1 _))).out ?_; intro w1 hb1)
  go_ret2
  exact ⟨_, rfl, OwI.nil _ _ _ _, by repeat (first | exact Below.refl _ _ | apply bl_alloc | apply bl_drew | apply bl_drewN | (refine bl_tr' (by assumption) ?_))⟩
def InnRel (W0 : World) (g6 : Nat) (n : Ins) (g : Int → List Int) (P : List Int) (va : Value) (ags : List Int) (v4 x : Value) (wr : World) : Prop :=
  ∃ j : Nat, j ≤ ags.length ∧ x = .int .i64 j ∧ OwI wr W0.heap.size 5 .u8 v4 (P ++ (ags.take j).flatMap g) ∧ OwI wr 0 3 .i64 va ags ∧ wr.heap[g6]? = some (.cells n.cells 92 (0, 0)) ∧ Below W0.heap.size W0 wr
end Go.Proofs.Ytehcimecmbcdfaa
