/- Contracts: may an instruction stand at this place (code.may, ref11.may)? -/
import Derived.Test.YtehcimecmbcdfaaXArith
import Derived.Test.YtehcimecmbcdfaaXKeep
set_option linter.unusedSimpArgs false
set_option linter.unusedVariables false
namespace Go.Proofs.Ytehcimecmbcdfaa
open Go.RowKit

/-- an instruction -/
structure Ins where
  op : Int
  a : Int
  b : Int
  c : Int
  k : Int
  s : Int
def Ins.cells (n : Ins) : Array Value := #[.int .i64 n.op, .int .i64 n.a, .int .i64 n.b, .int .i64 n.c, .int .i64 n.k, .int .i64 n.s]
def Ins.val (n : Ins) : Value := .agg n.cells
def Ins.reg (n : Ins) (i : Nat) : Int := if i = 0 then n.a else if i = 1 then n.b else n.c
def regOk (A : Int) (j : Nat) (x p : Int) : Bool := if (j : Int) < A then decide (0 ≤ x ∧ x < p) else decide (x = 0)
def insTail (n : Ins) : Bool :=
  if n.op = 1 then wordB n.k && decide (n.s = 0)
  else if n.op = 2 then decide (0 ≤ n.k ∧ n.k ≤ 5) && decide (n.s = 0)
  else if n.op = 3 then decide (0 ≤ n.k ∧ n.k ≤ 255) && decide (n.s = 0)
  else if n.op = 33 then true
  else if 29 ≤ n.op ∧ n.op ≤ 32 then decide (n.s = 0)
  else decide (n.k = 0) && decide (n.s = 0)
def mayI (n : Ins) (p : Int) : Bool :=
  decide (0 ≤ ar n.op) && consts n.op n.k n.s && (regOk (ar n.op) 0 n.a p && regOk (ar n.op) 1 n.b p && regOk (ar n.op) 2 n.c p) && insTail n
theorem ar_le (op : Int) : -1 ≤ ar op ∧ ar op ≤ 3 := by unfold ar; split <;> (try split) <;> (try split) <;> (try split) <;> omega
def In64 (x : Int) : Prop := -9223372036854775808 ≤ x ∧ x ≤ 9223372036854775807
structure Ins.wf (n : Ins) : Prop where
  op : In64 n.op
  a : In64 n.a
  b : In64 n.b
  c : In64 n.c
  k : In64 n.k
  s : In64 n.s
def MayRel (w1 : World) (A p : Int) (n : Ins) (i : Value) (wr : World) : Prop := ∃ k : Nat, k ≤ 3 ∧ i = .int .i64 k ∧ wr = w1 ∧ ∀ j, j < k → regOk A j (n.reg j) p = true
set_option maxRecDepth 20000 in
set_option maxHeartbeats 4000000 in
theorem may_any (n : Ins) (p : Int) (w : World) (hw : n.wf) (hp : In64 p) :
    Calls Try.prog 80 #[n.val, .int .i64 p] w fun e w' => e = .returned (.bool (mayI n p)) ∧ Below w.heap.size w w' := by
  obtain ⟨op, a, b, c, k, s⟩ := n
  obtain ⟨-, -, -, -, hk, -⟩ := hw
  simp only [Ins.val, Ins.cells]
  have hkk := Lib.hid hk
  obtain ⟨ha1, ha2⟩ := ar_le op
  obtain ⟨A, hA⟩ : ∃ A, ar op = A := ⟨_, rfl⟩
  rw [hA] at ha1 ha2
  have HA := Lib.hid hA
  clear hA hk
  obtain ⟨C, hC⟩ : ∃ C, consts op k s = C := ⟨_, rfl⟩
  have HC := Lib.hid hC
  clear hC
  go_enter Try.func80, Try.ntmps80
  go_wp2_with fail
  refine use_b (arity_any op _) ?_
  rw [HA.out]
  intro w1 hb1
  have c0 := keepc hb1 (blk_cell (blk_new w _) 0)
  have c1 := keepc hb1 (blk_cell (blk_new w _) 1)
  have c2 := keepc hb1 (blk_cell (blk_new w _) 2)
  have c3 := keepc hb1 (blk_cell (blk_new w _) 3)
  have c4 := keepc hb1 (blk_cell (blk_new w _) 4)
  have c5 := keepc hb1 (blk_cell (blk_new w _) 5)
  by_cases h0 : A < 0
  · have hb := Lib.hid (show false = mayI ⟨op, a, b, c, k, s⟩ p by unfold mayI; rw [HA.out, decide_eq_false (by omega)]; rfl)
    go_wp2
    go_ret
    exact ⟨ret_b hb.out, bl_tr (bl1 _) hb1.out⟩
  · go_wp2_with fail
    refine use_b (consts_any op k s _ hkk.out) ?_
    rw [HC.out]
    intro w2 hb2
    have B2 := Lib.hid (bl_tr (bl_tr (bl1 _) hb1.out) hb2.out)
    have c0 := keepc hb2 c0
    have c1 := keepc hb2 c1
    have c2 := keepc hb2 c2
    have c3 := keepc hb2 c3
    have c4 := keepc hb2 c4
    have c5 := keepc hb2 c5
    clear hb1 hb2
    cases C with
    | false =>
      have hb := Lib.hid (show false = mayI ⟨op, a, b, c, k, s⟩ p by unfold mayI; simp only [HC.out]; simp)
      go_wp2
      go_ret
      exact ⟨ret_b hb.out, B2.out⟩
    | true =>
      have hall := Lib.hid (show mayI ⟨op, a, b, c, k, s⟩ p = ((regOk A 0 a p && regOk A 1 b p && regOk A 2 c p) && insTail ⟨op, a, b, c, k, s⟩) by unfold mayI; simp only [HC.out, HA.out]; rw [decide_eq_true (by omega)]; simp)
      go_wp2_with fail
      have i0 : ∀ W : World, (Instr.index 112 (.agg #[.int .i64 a, .int .i64 b, .int .i64 c]) (.int .i64 0)).run Try.prog W = .ok (.int .i64 a) W := fun W => by kernel_rfl
      have i1 : ∀ W : World, (Instr.index 112 (.agg #[.int .i64 a, .int .i64 b, .int .i64 c]) (.int .i64 1)).run Try.prog W = .ok (.int .i64 b) W := fun W => by kernel_rfl
      have i2 : ∀ W : World, (Instr.index 112 (.agg #[.int .i64 a, .int .i64 b, .int .i64 c]) (.int .i64 2)).run Try.prog W = .ok (.int .i64 c) W := fun W => by kernel_rfl
      go_loopw [6, 7, 30] (fun _ _ i wr => MayRel w2 A p ⟨op, a, b, c, k, s⟩ i wr) (fun _ _ i _ => 3 - (intOf i).toNat)
      case atStart => exact ⟨0, by omega, rfl, rfl, fun j hj => absurd hj (Nat.not_lt_zero _)⟩
      case round =>
        obtain ⟨q, hq, rfl, rfl, hok⟩ := hrel
        have HOK := Lib.hid hok
        clear hok
        have hq4 : q = 0 ∨ q = 1 ∨ q = 2 ∨ q = 3 := by omega
        rcases hq4 with rfl | rfl | rfl | rfl
        · by_cases g1 : (0 : Int) < A
          · by_cases g2 : a < 0
            · have hb := Lib.hid (show false = mayI ⟨op, a, b, c, k, s⟩ p by rw [hall.out, show regOk A 0 a p = false by unfold regOk; rw [if_pos (by omega), decide_eq_false (by omega)]]; simp)
              go_wp2
              go_ret
              exact ⟨ret_b hb.out, B2.out⟩
            · by_cases g3 : p ≤ a
              · have hb := Lib.hid (show false = mayI ⟨op, a, b, c, k, s⟩ p by rw [hall.out, show regOk A 0 a p = false by unfold regOk; rw [if_pos (by omega), decide_eq_false (by omega)]]; simp)
                go_wp2
                go_ret
                exact ⟨ret_b hb.out, B2.out⟩
              · have hg := Lib.hid (show regOk A 0 a p = true by unfold regOk; rw [if_pos (by omega), decide_eq_true (by omega)])
                go_wp2
                go_roundw
                case measure => simp [intOf]
                case rel =>
                  refine ⟨1, by omega, by go_num, rfl, fun j hj => ?_⟩
                  by_cases hj2 : j = 0
                  · subst hj2; exact hg.out
                  · exact HOK.out j (by omega)
          · by_cases g4 : a = 0
            · have g5 : (a != 0) = false := by rw [g4]; rfl
              have hg := Lib.hid (show regOk A 0 a p = true by unfold regOk; rw [if_neg (by omega), decide_eq_true (by omega)])
              clear g4
              go_wp2
              go_roundw
              case measure => simp [intOf]
              case rel =>
                refine ⟨1, by omega, by go_num, rfl, fun j hj => ?_⟩
                by_cases hj2 : j = 0
                · subst hj2; exact hg.out
                · exact HOK.out j (by omega)
            · have g5 : (a != 0) = true := by rw [bne_iff_ne]; exact g4
              have hb := Lib.hid (show false = mayI ⟨op, a, b, c, k, s⟩ p by rw [hall.out, show regOk A 0 a p = false by unfold regOk; rw [if_neg (by omega), decide_eq_false (by omega)]]; simp)
              go_wp2
              go_ret
              exact ⟨ret_b hb.out, B2.out⟩
        · by_cases g1 : (1 : Int) < A
          · by_cases g2 : b < 0
            · have hb := Lib.hid (show false = mayI ⟨op, a, b, c, k, s⟩ p by rw [hall.out, show regOk A 1 b p = false by unfold regOk; rw [if_pos (by omega), decide_eq_false (by omega)]]; simp)
              go_wp2
              go_ret
              exact ⟨ret_b hb.out, B2.out⟩
            · by_cases g3 : p ≤ b
              · have hb := Lib.hid (show false = mayI ⟨op, a, b, c, k, s⟩ p by rw [hall.out, show regOk A 1 b p = false by unfold regOk; rw [if_pos (by omega), decide_eq_false (by omega)]]; simp)
                go_wp2
                go_ret
                exact ⟨ret_b hb.out, B2.out⟩
              · have hg := Lib.hid (show regOk A 1 b p = true by unfold regOk; rw [if_pos (by omega), decide_eq_true (by omega)])
                go_wp2
                go_roundw
                case measure => simp [intOf]
                case rel =>
                  refine ⟨2, by omega, by go_num, rfl, fun j hj => ?_⟩
                  by_cases hj2 : j = 1
                  · subst hj2; exact hg.out
                  · exact HOK.out j (by omega)
          · by_cases g4 : b = 0
            · have g5 : (b != 0) = false := by rw [g4]; rfl
              have hg := Lib.hid (show regOk A 1 b p = true by unfold regOk; rw [if_neg (by omega), decide_eq_true (by omega)])
              clear g4
              go_wp2
              go_roundw
              case measure => simp [intOf]
              case rel =>
                refine ⟨2, by omega, by go_num, rfl, fun j hj => ?_⟩
                by_cases hj2 : j = 1
                · subst hj2; exact hg.out
                · exact HOK.out j (by omega)
            · have g5 : (b != 0) = true := by rw [bne_iff_ne]; exact g4
              have hb := Lib.hid (show false = mayI ⟨op, a, b, c, k, s⟩ p by rw [hall.out, show regOk A 1 b p = false by unfold regOk; rw [if_neg (by omega), decide_eq_false (by omega)]]; simp)
              go_wp2
              go_ret
              exact ⟨ret_b hb.out, B2.out⟩
        · by_cases g1 : (2 : Int) < A
          · by_cases g2 : c < 0
            · have hb := Lib.hid (show false = mayI ⟨op, a, b, c, k, s⟩ p by rw [hall.out, show regOk A 2 c p = false by unfold regOk; rw [if_pos (by omega), decide_eq_false (by omega)]]; simp)
              go_wp2
              go_ret
              exact ⟨ret_b hb.out, B2.out⟩
            · by_cases g3 : p ≤ c
              · have hb := Lib.hid (show false = mayI ⟨op, a, b, c, k, s⟩ p by rw [hall.out, show regOk A 2 c p = false by unfold regOk; rw [if_pos (by omega), decide_eq_false (by omega)]]; simp)
                go_wp2
                go_ret
                exact ⟨ret_b hb.out, B2.out⟩
              · have hg := Lib.hid (show regOk A 2 c p = true by unfold regOk; rw [if_pos (by omega), decide_eq_true (by omega)])
                go_wp2
                go_roundw
                case measure => simp [intOf]
                case rel =>
                  refine ⟨3, by omega, by go_num, rfl, fun j hj => ?_⟩
                  by_cases hj2 : j = 2
                  · subst hj2; exact hg.out
                  · exact HOK.out j (by omega)
          · by_cases g4 : c = 0
            · have g5 : (c != 0) = false := by rw [g4]; rfl
              have hg := Lib.hid (show regOk A 2 c p = true by unfold regOk; rw [if_neg (by omega), decide_eq_true (by omega)])
              clear g4
              go_wp2
              go_roundw
              case measure => simp [intOf]
              case rel =>
                refine ⟨3, by omega, by go_num, rfl, fun j hj => ?_⟩
                by_cases hj2 : j = 2
                · subst hj2; exact hg.out
                · exact HOK.out j (by omega)
            · have g5 : (c != 0) = true := by rw [bne_iff_ne]; exact g4
              have hb := Lib.hid (show false = mayI ⟨op, a, b, c, k, s⟩ p by rw [hall.out, show regOk A 2 c p = false by unfold regOk; rw [if_neg (by omega), decide_eq_false (by omega)]]; simp)
              go_wp2
              go_ret
              exact ⟨ret_b hb.out, B2.out⟩
        · have hmt := Lib.hid (show mayI ⟨op, a, b, c, k, s⟩ p = insTail ⟨op, a, b, c, k, s⟩ by
            rw [hall.out, show regOk A 0 a p = true from HOK.out 0 (by omega), show regOk A 1 b p = true from HOK.out 1 (by omega), show regOk A 2 c p = true from HOK.out 2 (by omega)]; rfl)
          clear i0 i1 i2 ha1 ha2 h0
          by_cases o1 : op = 1
          · subst o1
            cases hwk : wordB k with
            | true =>
              have HW := Lib.hid hwk
              have hb := Lib.hid (show (s == 0) = mayI ⟨1, a, b, c, k, s⟩ p by rw [hmt.out]; unfold insTail; simp only [if_pos rfl, HW.out, Bool.true_and]; by_cases h : s = 0 <;> simp [h])
              clear hwk
              go_wp2_with fail
              refine use_b (word_any k _ hkk.out) ?_
              rw [HW.out]
              intro w3 hb3
              have c5 := keepc hb3 c5
              go_wp2
              go_ret
              exact ⟨ret_b hb.out, bl_tr B2.out hb3.out⟩
            | false =>
              have HW := Lib.hid hwk
              have hb := Lib.hid (show false = mayI ⟨1, a, b, c, k, s⟩ p by rw [hmt.out]; show _ = (wordB k && decide (s = 0)); rw [HW.out]; rfl)
              clear hwk
              go_wp2_with fail
              refine use_b (word_any k _ hkk.out) ?_
              rw [HW.out]
              intro w3 hb3
              go_wp2
              go_ret
              exact ⟨ret_b hb.out, bl_tr B2.out hb3.out⟩
          by_cases o2 : op = 2
          · subst o2
            clear o1 
            by_cases k1 : 0 ≤ k
            · by_cases k2 : k ≤ 5
              · have hb := Lib.hid (show (s == 0) = mayI ⟨2, a, b, c, k, s⟩ p by rw [hmt.out]; show _ = (decide (0 ≤ k ∧ k ≤ 5) && decide (s = 0)); rw [decide_eq_true (by omega), Bool.true_and]; by_cases h : s = 0 <;> simp [h])
                go_wp2
                go_ret
                exact ⟨ret_b hb.out, B2.out⟩
              · have hb := Lib.hid (show false = mayI ⟨2, a, b, c, k, s⟩ p by rw [hmt.out]; show _ = (decide (0 ≤ k ∧ k ≤ 5) && decide (s = 0)); rw [decide_eq_false (by omega), Bool.false_and])
                go_wp2
                go_ret
                exact ⟨ret_b hb.out, B2.out⟩
            · have hb := Lib.hid (show false = mayI ⟨2, a, b, c, k, s⟩ p by rw [hmt.out]; show _ = (decide (0 ≤ k ∧ k ≤ 5) && decide (s = 0)); rw [decide_eq_false (by omega), Bool.false_and])
              go_wp2
              go_ret
              exact ⟨ret_b hb.out, B2.out⟩
          by_cases o3 : op = 3
          · subst o3
            clear o1 o2
            by_cases k1 : 0 ≤ k
            · by_cases k2 : k ≤ 255
              · have hb := Lib.hid (show (s == 0) = mayI ⟨3, a, b, c, k, s⟩ p by rw [hmt.out]; show _ = (decide (0 ≤ k ∧ k ≤ 255) && decide (s = 0)); rw [decide_eq_true (by omega), Bool.true_and]; by_cases h : s = 0 <;> simp [h])
                go_wp2
                go_ret
                exact ⟨ret_b hb.out, B2.out⟩
              · have hb := Lib.hid (show false = mayI ⟨3, a, b, c, k, s⟩ p by rw [hmt.out]; show _ = (decide (0 ≤ k ∧ k ≤ 255) && decide (s = 0)); rw [decide_eq_false (by omega), Bool.false_and])
                go_wp2
                go_ret
                exact ⟨ret_b hb.out, B2.out⟩
            · have hb := Lib.hid (show false = mayI ⟨3, a, b, c, k, s⟩ p by rw [hmt.out]; show _ = (decide (0 ≤ k ∧ k ≤ 255) && decide (s = 0)); rw [decide_eq_false (by omega), Bool.false_and])
              go_wp2
              go_ret
              exact ⟨ret_b hb.out, B2.out⟩
          by_cases o33 : op = 33
          · subst o33
            clear o1 o2 o3
            have hb := Lib.hid (show true = mayI ⟨33, a, b, c, k, s⟩ p by rw [hmt.out]; rfl)
            go_wp2
            go_ret
            exact ⟨ret_b hb.out, B2.out⟩
          by_cases om : op = 29 ∨ op = 30 ∨ op = 31 ∨ op = 32
          · clear o1 o2 o3 o33
            have hs : Hid ((s == 0) = decide (s = 0)) := by unfold Hid; by_cases h : s = 0 <;> simp [h]
            rcases om with rfl | rfl | rfl | rfl
            all_goals
              have hb := Lib.hid (show (s == 0) = mayI ⟨_, a, b, c, k, s⟩ p by rw [hmt.out]; exact hs.out)
              go_wp2
              go_ret
              exact ⟨ret_b hb.out, B2.out⟩
          have ht := Lib.hid (show insTail ⟨op, a, b, c, k, s⟩ = (decide (k = 0) && decide (s = 0)) by unfold insTail; simp only [if_neg o1, if_neg o2, if_neg o3, if_neg o33]; rw [if_neg (by omega)])
          have q1 : (op == 1) = false := by rw [beq_eq_false_iff_ne]; exact o1
          have q2 : (op == 2) = false := by rw [beq_eq_false_iff_ne]; exact o2
          have q3 : (op == 3) = false := by rw [beq_eq_false_iff_ne]; exact o3
          have q33 : (op == 33) = false := by rw [beq_eq_false_iff_ne]; exact o33
          have q29 : (op == 29) = false := by rw [beq_eq_false_iff_ne]; omega
          have q30 : (op == 30) = false := by rw [beq_eq_false_iff_ne]; omega
          have q31 : (op == 31) = false := by rw [beq_eq_false_iff_ne]; omega
          have q32 : (op == 32) = false := by rw [beq_eq_false_iff_ne]; omega
          clear o1 o2 o3 o33 om
          by_cases k0 : k = 0
          · have k1 : (k == 0) = true := by rw [beq_iff_eq]; exact k0
            have hb := Lib.hid (show (s == 0) = mayI ⟨op, a, b, c, k, s⟩ p by rw [hmt.out, ht.out, decide_eq_true k0, Bool.true_and]; by_cases h : s = 0 <;> simp [h])
            clear k0
            go_wp2
            go_ret
            exact ⟨ret_b hb.out, B2.out⟩
          · have k1 : (k == 0) = false := by rw [beq_eq_false_iff_ne]; exact k0
            have hb := Lib.hid (show false = mayI ⟨op, a, b, c, k, s⟩ p by rw [hmt.out, ht.out, decide_eq_false k0, Bool.false_and])
            clear k0
            go_wp2
            go_ret
            exact ⟨ret_b hb.out, B2.out⟩
end Go.Proofs.Ytehcimecmbcdfaa
