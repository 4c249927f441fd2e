/- Contract: ref11.may. -/
import Derived.Test.YtehcimecmbcdfaaXMay
set_option linter.unusedSimpArgs false
set_option linter.unusedVariables false
namespace Go.Proofs.Ytehcimecmbcdfaa
open Go.RowKit

set_option maxRecDepth 20000 in
set_option maxHeartbeats 4000000 in
theorem rmay_33 (op a b c k s p : Int) (w : World) (hk : In64 k) (hp : 0 ≤ p ∧ p ≤ 9223372036854775807) :
    Calls Try.prog 85 #[Ins.val ⟨33, a, b, c, k, s⟩, .int .i64 p] w fun e w' => e = .returned (.bool (mayI ⟨33, a, b, c, k, s⟩ p)) ∧ Below w.heap.size w w' := by
  simp only [Ins.val, Ins.cells]
  have hkk := Lib.hid hk
  obtain ⟨hp1, hp2⟩ := hp
  have ha1 : -1 ≤ (1 : Int) := by decide
  have ha2 : (1 : Int) ≤ 3 := by decide
  obtain ⟨A, hA⟩ : ∃ A, ar 33 = A := ⟨_, rfl⟩
  have hA1 : A = 1 := by rw [← hA]; rfl
  have HA := Lib.hid hA
  clear hA hk
  go_enter Try.func85, Try.ntmps85
  go_wp2_with fail
  refine use_b (rArity_any 33 _) ?_
  rw [HA.out]
  intro w1 hb1
  have c0 := keepc hb1 (blk_cell (blk_new w _) 0)
  have c1 := keepc hb1 (blk_cell (blk_new w _) 1)
  have c2 := keepc hb1 (blk_cell (blk_new w _) 2)
  have c3 := keepc hb1 (blk_cell (blk_new w _) 3)
  have c4 := keepc hb1 (blk_cell (blk_new w _) 4)
  have c5 := keepc hb1 (blk_cell (blk_new w _) 5)
  have h0 : ¬ A < 0 := by omega
  clear hA1
  have hall := Lib.hid (show mayI ⟨33, a, b, c, k, s⟩ p = ((regOk A 0 a p && regOk A 1 b p && regOk A 2 c p) && (consts 33 k s && insTail ⟨33, a, b, c, k, s⟩)) by unfold mayI; simp only [HA.out]; rw [decide_eq_true (by omega), Bool.true_and, Bool.and_comm (consts _ _ _), Bool.and_assoc])
  go_wp2_with fail
  have B2 := Lib.hid (bl_alloc (bl_tr (bl1 (.cells (Ins.cells ⟨33, a, b, c, k, s⟩) 92)) hb1.out) (.cells #[.int .i64 a, .int .i64 b, .int .i64 c] 3))
  have hbz := Lib.hid (bl1 (w := w1) (.cells #[.int .i64 a, .int .i64 b, .int .i64 c] 3))
  have e0 := keepc hbz c0
  have e4 := keepc hbz c4
  have e5 := keepc hbz c5
  have d0 := blk_cell (blk_new w1 (.cells #[.int .i64 a, .int .i64 b, .int .i64 c] 3)) 0
  have d1 := blk_cell (blk_new w1 (.cells #[.int .i64 a, .int .i64 b, .int .i64 c] 3)) 1
  have d2 := blk_cell (blk_new w1 (.cells #[.int .i64 a, .int .i64 b, .int .i64 c] 3)) 2
  obtain ⟨wz, hwz⟩ : ∃ x, w1.alloc (.cells #[.int .i64 a, .int .i64 b, .int .i64 c] 3) = x := ⟨_, rfl⟩
  obtain ⟨gz, hgz⟩ : ∃ x, w1.heap.size = x := ⟨_, rfl⟩
  rw [hwz] at B2 hbz e0 e4 e5 d0 d1 d2 ⊢
  rw [hgz] at d0 d1 d2
  clear hbz
  simp only [hgz]
  clear hwz hgz
  go_loopw [7] (fun i wr => MayRel wz A p ⟨33, a, b, c, k, s⟩ i wr) (fun i _ => 3 - (intOf i).toNat)
  case atStart => exact ⟨0, by omega, rfl, rfl, fun j hj => absurd hj (Nat.not_lt_zero _)⟩
  case round =>
    obtain ⟨q, hq, rfl, rfl, hok⟩ := hrel
    have HOK := Lib.hid hok
    clear hok
    have hq4 : q = 0 ∨ q = 1 ∨ q = 2 ∨ q = 3 := by omega
    rcases hq4 with rfl | rfl | rfl | rfl
    · by_cases g1 : (0 : Int) < A
      · have g1' : decide (A ≤ 0) = false := decide_eq_false (by omega)
        by_cases g2 : a < 0
        · have hb := Lib.hid (show false = mayI ⟨33, a, b, c, k, s⟩ p by rw [hall.out, show regOk A 0 a p = false by unfold regOk; rw [if_pos (by omega), decide_eq_false (by omega)]]; simp)
          go_wp2
          go_ret
          exact ⟨ret_b hb.out, B2.out⟩
        · by_cases g3 : p - 1 < a
          · have hb := Lib.hid (show false = mayI ⟨33, a, b, c, k, s⟩ p by rw [hall.out, show regOk A 0 a p = false by unfold regOk; rw [if_pos (by omega), decide_eq_false (by omega)]]; simp)
            go_wp2
            go_ret
            exact ⟨ret_b hb.out, B2.out⟩
          · have hg := Lib.hid (show regOk A 0 a p = true by unfold regOk; rw [if_pos (by omega), decide_eq_true (by omega)])
            go_wp2
            go_roundw
            case measure => simp [intOf]
            case rel =>
              refine ⟨1, by omega, by go_num, rfl, fun j hj => ?_⟩
              by_cases hj2 : j = 0
              · subst hj2; exact hg.out
              · exact HOK.out j (by omega)
      · by_cases g4 : a = 0
        · have g5 : (a != 0) = false := by rw [g4]; rfl
          have hg := Lib.hid (show regOk A 0 a p = true by unfold regOk; rw [if_neg (by omega), decide_eq_true (by omega)])
          clear g4
          go_wp2
          go_roundw
          case measure => simp [intOf]
          case rel =>
            refine ⟨1, by omega, by go_num, rfl, fun j hj => ?_⟩
            by_cases hj2 : j = 0
            · subst hj2; exact hg.out
            · exact HOK.out j (by omega)
        · have g5 : (a != 0) = true := by rw [bne_iff_ne]; exact g4
          have hb := Lib.hid (show false = mayI ⟨33, a, b, c, k, s⟩ p by rw [hall.out, show regOk A 0 a p = false by unfold regOk; rw [if_neg (by omega), decide_eq_false (by omega)]]; simp)
          go_wp2
          go_ret
          exact ⟨ret_b hb.out, B2.out⟩
    · by_cases g1 : (1 : Int) < A
      · have g1' : decide (A ≤ 1) = false := decide_eq_false (by omega)
        by_cases g2 : b < 0
        · have hb := Lib.hid (show false = mayI ⟨33, a, b, c, k, s⟩ p by rw [hall.out, show regOk A 1 b p = false by unfold regOk; rw [if_pos (by omega), decide_eq_false (by omega)]]; simp)
          go_wp2
          go_ret
          exact ⟨ret_b hb.out, B2.out⟩
        · by_cases g3 : p - 1 < b
          · have hb := Lib.hid (show false = mayI ⟨33, a, b, c, k, s⟩ p by rw [hall.out, show regOk A 1 b p = false by unfold regOk; rw [if_pos (by omega), decide_eq_false (by omega)]]; simp)
            go_wp2
            go_ret
            exact ⟨ret_b hb.out, B2.out⟩
          · have hg := Lib.hid (show regOk A 1 b p = true by unfold regOk; rw [if_pos (by omega), decide_eq_true (by omega)])
            go_wp2
            go_roundw
            case measure => simp [intOf]
            case rel =>
              refine ⟨2, by omega, by go_num, rfl, fun j hj => ?_⟩
              by_cases hj2 : j = 1
              · subst hj2; exact hg.out
              · exact HOK.out j (by omega)
      · by_cases g4 : b = 0
        · have g5 : (b != 0) = false := by rw [g4]; rfl
          have hg := Lib.hid (show regOk A 1 b p = true by unfold regOk; rw [if_neg (by omega), decide_eq_true (by omega)])
          clear g4
          go_wp2
          go_roundw
          case measure => simp [intOf]
          case rel =>
            refine ⟨2, by omega, by go_num, rfl, fun j hj => ?_⟩
            by_cases hj2 : j = 1
            · subst hj2; exact hg.out
            · exact HOK.out j (by omega)
        · have g5 : (b != 0) = true := by rw [bne_iff_ne]; exact g4
          have hb := Lib.hid (show false = mayI ⟨33, a, b, c, k, s⟩ p by rw [hall.out, show regOk A 1 b p = false by unfold regOk; rw [if_neg (by omega), decide_eq_false (by omega)]]; simp)
          go_wp2
          go_ret
          exact ⟨ret_b hb.out, B2.out⟩
    · by_cases g1 : (2 : Int) < A
      · have g1' : decide (A ≤ 2) = false := decide_eq_false (by omega)
        by_cases g2 : c < 0
        · have hb := Lib.hid (show false = mayI ⟨33, a, b, c, k, s⟩ p by rw [hall.out, show regOk A 2 c p = false by unfold regOk; rw [if_pos (by omega), decide_eq_false (by omega)]]; simp)
          go_wp2
          go_ret
          exact ⟨ret_b hb.out, B2.out⟩
        · by_cases g3 : p - 1 < c
          · have hb := Lib.hid (show false = mayI ⟨33, a, b, c, k, s⟩ p by rw [hall.out, show regOk A 2 c p = false by unfold regOk; rw [if_pos (by omega), decide_eq_false (by omega)]]; simp)
            go_wp2
            go_ret
            exact ⟨ret_b hb.out, B2.out⟩
          · have hg := Lib.hid (show regOk A 2 c p = true by unfold regOk; rw [if_pos (by omega), decide_eq_true (by omega)])
            go_wp2
            go_roundw
            case measure => simp [intOf]
            case rel =>
              refine ⟨3, by omega, by go_num, rfl, fun j hj => ?_⟩
              by_cases hj2 : j = 2
              · subst hj2; exact hg.out
              · exact HOK.out j (by omega)
      · by_cases g4 : c = 0
        · have g5 : (c != 0) = false := by rw [g4]; rfl
          have hg := Lib.hid (show regOk A 2 c p = true by unfold regOk; rw [if_neg (by omega), decide_eq_true (by omega)])
          clear g4
          go_wp2
          go_roundw
          case measure => simp [intOf]
          case rel =>
            refine ⟨3, by omega, by go_num, rfl, fun j hj => ?_⟩
            by_cases hj2 : j = 2
            · subst hj2; exact hg.out
            · exact HOK.out j (by omega)
        · have g5 : (c != 0) = true := by rw [bne_iff_ne]; exact g4
          have hb := Lib.hid (show false = mayI ⟨33, a, b, c, k, s⟩ p by rw [hall.out, show regOk A 2 c p = false by unfold regOk; rw [if_neg (by omega), decide_eq_false (by omega)]]; simp)
          go_wp2
          go_ret
          exact ⟨ret_b hb.out, B2.out⟩
    · have hmt := Lib.hid (show mayI ⟨33, a, b, c, k, s⟩ p = (consts 33 k s && insTail ⟨33, a, b, c, k, s⟩) by
        rw [hall.out, show regOk A 0 a p = true from HOK.out 0 (by omega), show regOk A 1 b p = true from HOK.out 1 (by omega), show regOk A 2 c p = true from HOK.out 2 (by omega)]; rfl)
      clear d0 d1 d2
      have hb := Lib.hid (show consts 33 k s = mayI ⟨33, a, b, c, k, s⟩ p by rw [hmt.out]; show _ = (consts 33 k s && true); rw [Bool.and_true])
      go_wp2_with fail
      refine use_b (rConsts_any 33 k s _) ?_
      intro w3 hb3
      go_wp2
      go_ret
      exact ⟨ret_b hb.out, bl_tr B2.out hb3.out⟩
set_option maxRecDepth 20000 in
set_option maxHeartbeats 4000000 in
theorem rmay_0 (op a b c k s p : Int) (w : World) (hk : In64 k) (hp : 0 ≤ p ∧ p ≤ 9223372036854775807) (h33 : op ≠ 33) :
    Calls Try.prog 85 #[Ins.val ⟨op, a, b, c, k, 0⟩, .int .i64 p] w fun e w' => e = .returned (.bool (mayI ⟨op, a, b, c, k, 0⟩ p)) ∧ Below w.heap.size w w' := by
  simp only [Ins.val, Ins.cells]
  have hkk := Lib.hid hk
  obtain ⟨hp1, hp2⟩ := hp
  have s1 : ((0 : Int) != 0) = false := rfl
  have o33 : (op != 33) = true := by rw [bne_iff_ne]; exact h33
  obtain ⟨ha1, ha2⟩ := ar_le op
  obtain ⟨A, hA⟩ : ∃ A, ar op = A := ⟨_, rfl⟩
  rw [hA] at ha1 ha2
  have HA := Lib.hid hA
  clear hA hk
  go_enter Try.func85, Try.ntmps85
  go_wp2_with fail
  refine use_b (rArity_any op _) ?_
  rw [HA.out]
  intro w1 hb1
  have c0 := keepc hb1 (blk_cell (blk_new w _) 0)
  have c1 := keepc hb1 (blk_cell (blk_new w _) 1)
  have c2 := keepc hb1 (blk_cell (blk_new w _) 2)
  have c3 := keepc hb1 (blk_cell (blk_new w _) 3)
  have c4 := keepc hb1 (blk_cell (blk_new w _) 4)
  have c5 := keepc hb1 (blk_cell (blk_new w _) 5)
  by_cases h0 : A < 0
  · have hb := Lib.hid (show false = mayI ⟨op, a, b, c, k, 0⟩ p by unfold mayI; rw [HA.out, decide_eq_false (by omega)]; rfl)
    go_wp2
    go_ret
    exact ⟨ret_b hb.out, bl_tr (bl1 _) hb1.out⟩
  have hall := Lib.hid (show mayI ⟨op, a, b, c, k, 0⟩ p = ((regOk A 0 a p && regOk A 1 b p && regOk A 2 c p) && (consts op k 0 && insTail ⟨op, a, b, c, k, 0⟩)) by unfold mayI; simp only [HA.out]; rw [decide_eq_true (by omega), Bool.true_and, Bool.and_comm (consts _ _ _), Bool.and_assoc])
  go_wp2_with fail
  have B2 := Lib.hid (bl_alloc (bl_tr (bl1 (.cells (Ins.cells ⟨op, a, b, c, k, 0⟩) 92)) hb1.out) (.cells #[.int .i64 a, .int .i64 b, .int .i64 c] 3))
  have hbz := Lib.hid (bl1 (w := w1) (.cells #[.int .i64 a, .int .i64 b, .int .i64 c] 3))
  have e0 := keepc hbz c0
  have e4 := keepc hbz c4
  have e5 := keepc hbz c5
  have d0 := blk_cell (blk_new w1 (.cells #[.int .i64 a, .int .i64 b, .int .i64 c] 3)) 0
  have d1 := blk_cell (blk_new w1 (.cells #[.int .i64 a, .int .i64 b, .int .i64 c] 3)) 1
  have d2 := blk_cell (blk_new w1 (.cells #[.int .i64 a, .int .i64 b, .int .i64 c] 3)) 2
  obtain ⟨wz, hwz⟩ : ∃ x, w1.alloc (.cells #[.int .i64 a, .int .i64 b, .int .i64 c] 3) = x := ⟨_, rfl⟩
  obtain ⟨gz, hgz⟩ : ∃ x, w1.heap.size = x := ⟨_, rfl⟩
  rw [hwz] at B2 hbz e0 e4 e5 d0 d1 d2 ⊢
  rw [hgz] at d0 d1 d2
  clear hbz
  simp only [hgz]
  clear hwz hgz
  go_loopw [7] (fun i wr => MayRel wz A p ⟨op, a, b, c, k, 0⟩ i wr) (fun i _ => 3 - (intOf i).toNat)
  case atStart => exact ⟨0, by omega, rfl, rfl, fun j hj => absurd hj (Nat.not_lt_zero _)⟩
  case round =>
    obtain ⟨q, hq, rfl, rfl, hok⟩ := hrel
    have HOK := Lib.hid hok
    clear hok
    have hq4 : q = 0 ∨ q = 1 ∨ q = 2 ∨ q = 3 := by omega
    rcases hq4 with rfl | rfl | rfl | rfl
    · by_cases g1 : (0 : Int) < A
      · have g1' : decide (A ≤ 0) = false := decide_eq_false (by omega)
        by_cases g2 : a < 0
        · have hb := Lib.hid (show false = mayI ⟨op, a, b, c, k, 0⟩ p by rw [hall.out, show regOk A 0 a p = false by unfold regOk; rw [if_pos (by omega), decide_eq_false (by omega)]]; simp)
          go_wp2
          go_ret
          exact ⟨ret_b hb.out, B2.out⟩
        · by_cases g3 : p - 1 < a
          · have hb := Lib.hid (show false = mayI ⟨op, a, b, c, k, 0⟩ p by rw [hall.out, show regOk A 0 a p = false by unfold regOk; rw [if_pos (by omega), decide_eq_false (by omega)]]; simp)
            go_wp2
            go_ret
            exact ⟨ret_b hb.out, B2.out⟩
          · have hg := Lib.hid (show regOk A 0 a p = true by unfold regOk; rw [if_pos (by omega), decide_eq_true (by omega)])
            go_wp2
            go_roundw
            case measure => simp [intOf]
            case rel =>
              refine ⟨1, by omega, by go_num, rfl, fun j hj => ?_⟩
              by_cases hj2 : j = 0
              · subst hj2; exact hg.out
              · exact HOK.out j (by omega)
      · by_cases g4 : a = 0
        · have g5 : (a != 0) = false := by rw [g4]; rfl
          have hg := Lib.hid (show regOk A 0 a p = true by unfold regOk; rw [if_neg (by omega), decide_eq_true (by omega)])
          clear g4
          go_wp2
          go_roundw
          case measure => simp [intOf]
          case rel =>
            refine ⟨1, by omega, by go_num, rfl, fun j hj => ?_⟩
            by_cases hj2 : j = 0
            · subst hj2; exact hg.out
            · exact HOK.out j (by omega)
        · have g5 : (a != 0) = true := by rw [bne_iff_ne]; exact g4
          have hb := Lib.hid (show false = mayI ⟨op, a, b, c, k, 0⟩ p by rw [hall.out, show regOk A 0 a p = false by unfold regOk; rw [if_neg (by omega), decide_eq_false (by omega)]]; simp)
          go_wp2
          go_ret
          exact ⟨ret_b hb.out, B2.out⟩
    · by_cases g1 : (1 : Int) < A
      · have g1' : decide (A ≤ 1) = false := decide_eq_false (by omega)
        by_cases g2 : b < 0
        · have hb := Lib.hid (show false = mayI ⟨op, a, b, c, k, 0⟩ p by rw [hall.out, show regOk A 1 b p = false by unfold regOk; rw [if_pos (by omega), decide_eq_false (by omega)]]; simp)
          go_wp2
          go_ret
          exact ⟨ret_b hb.out, B2.out⟩
        · by_cases g3 : p - 1 < b
          · have hb := Lib.hid (show false = mayI ⟨op, a, b, c, k, 0⟩ p by rw [hall.out, show regOk A 1 b p = false by unfold regOk; rw [if_pos (by omega), decide_eq_false (by omega)]]; simp)
            go_wp2
            go_ret
            exact ⟨ret_b hb.out, B2.out⟩
          · have hg := Lib.hid (show regOk A 1 b p = true by unfold regOk; rw [if_pos (by omega), decide_eq_true (by omega)])
            go_wp2
            go_roundw
            case measure => simp [intOf]
            case rel =>
              refine ⟨2, by omega, by go_num, rfl, fun j hj => ?_⟩
              by_cases hj2 : j = 1
              · subst hj2; exact hg.out
              · exact HOK.out j (by omega)
      · by_cases g4 : b = 0
        · have g5 : (b != 0) = false := by rw [g4]; rfl
          have hg := Lib.hid (show regOk A 1 b p = true by unfold regOk; rw [if_neg (by omega), decide_eq_true (by omega)])
          clear g4
          go_wp2
          go_roundw
          case measure => simp [intOf]
          case rel =>
            refine ⟨2, by omega, by go_num, rfl, fun j hj => ?_⟩
            by_cases hj2 : j = 1
            · subst hj2; exact hg.out
            · exact HOK.out j (by omega)
        · have g5 : (b != 0) = true := by rw [bne_iff_ne]; exact g4
          have hb := Lib.hid (show false = mayI ⟨op, a, b, c, k, 0⟩ p by rw [hall.out, show regOk A 1 b p = false by unfold regOk; rw [if_neg (by omega), decide_eq_false (by omega)]]; simp)
          go_wp2
          go_ret
          exact ⟨ret_b hb.out, B2.out⟩
    · by_cases g1 : (2 : Int) < A
      · have g1' : decide (A ≤ 2) = false := decide_eq_false (by omega)
        by_cases g2 : c < 0
        · have hb := Lib.hid (show false = mayI ⟨op, a, b, c, k, 0⟩ p by rw [hall.out, show regOk A 2 c p = false by unfold regOk; rw [if_pos (by omega), decide_eq_false (by omega)]]; simp)
          go_wp2
          go_ret
          exact ⟨ret_b hb.out, B2.out⟩
        · by_cases g3 : p - 1 < c
          · have hb := Lib.hid (show false = mayI ⟨op, a, b, c, k, 0⟩ p by rw [hall.out, show regOk A 2 c p = false by unfold regOk; rw [if_pos (by omega), decide_eq_false (by omega)]]; simp)
            go_wp2
            go_ret
            exact ⟨ret_b hb.out, B2.out⟩
          · have hg := Lib.hid (show regOk A 2 c p = true by unfold regOk; rw [if_pos (by omega), decide_eq_true (by omega)])
            go_wp2
            go_roundw
            case measure => simp [intOf]
            case rel =>
              refine ⟨3, by omega, by go_num, rfl, fun j hj => ?_⟩
              by_cases hj2 : j = 2
              · subst hj2; exact hg.out
              · exact HOK.out j (by omega)
      · by_cases g4 : c = 0
        · have g5 : (c != 0) = false := by rw [g4]; rfl
          have hg := Lib.hid (show regOk A 2 c p = true by unfold regOk; rw [if_neg (by omega), decide_eq_true (by omega)])
          clear g4
          go_wp2
          go_roundw
          case measure => simp [intOf]
          case rel =>
            refine ⟨3, by omega, by go_num, rfl, fun j hj => ?_⟩
            by_cases hj2 : j = 2
            · subst hj2; exact hg.out
            · exact HOK.out j (by omega)
        · have g5 : (c != 0) = true := by rw [bne_iff_ne]; exact g4
          have hb := Lib.hid (show false = mayI ⟨op, a, b, c, k, 0⟩ p by rw [hall.out, show regOk A 2 c p = false by unfold regOk; rw [if_neg (by omega), decide_eq_false (by omega)]]; simp)
          go_wp2
          go_ret
          exact ⟨ret_b hb.out, B2.out⟩
    · have hmt := Lib.hid (show mayI ⟨op, a, b, c, k, 0⟩ p = (consts op k 0 && insTail ⟨op, a, b, c, k, 0⟩) by
        rw [hall.out, show regOk A 0 a p = true from HOK.out 0 (by omega), show regOk A 1 b p = true from HOK.out 1 (by omega), show regOk A 2 c p = true from HOK.out 2 (by omega)]; rfl)
      clear d0 d1 d2
      by_cases o1 : op = 1
      · subst o1
        have hb := Lib.hid (show wordB k = mayI ⟨1, a, b, c, k, 0⟩ p by rw [hmt.out]; show _ = (true && (wordB k && true)); simp)
        go_wp2_with fail
        refine use_b (rWord_any k _) ?_
        intro w3 hb3
        go_wp2
        go_ret
        exact ⟨ret_b hb.out, bl_tr B2.out hb3.out⟩
      have q1 : (op == 1) = false := by rw [beq_eq_false_iff_ne]; exact o1
      by_cases o2 : op = 2
      · subst o2
        clear o1 q1 o33 h33
        have o33 : ((2 : Int) != 33) = true := rfl
        by_cases k1 : 0 ≤ k
        · have hb := Lib.hid (show decide (k < 6) = mayI ⟨2, a, b, c, k, 0⟩ p by rw [hmt.out]; show _ = (true && (decide (0 ≤ k ∧ k ≤ 5) && true)); rw [Bool.true_and, Bool.and_true]; rw [decide_eq_decide]; omega)
          go_wp2
          go_ret
          exact ⟨ret_b hb.out, B2.out⟩
        · have hb := Lib.hid (show false = mayI ⟨2, a, b, c, k, 0⟩ p by rw [hmt.out]; show _ = (true && (decide (0 ≤ k ∧ k ≤ 5) && true)); rw [Bool.true_and, Bool.and_true]; rw [decide_eq_false (by omega)])
          go_wp2
          go_ret
          exact ⟨ret_b hb.out, B2.out⟩
      have q2 : (op == 2) = false := by rw [beq_eq_false_iff_ne]; exact o2
      by_cases o3 : op = 3
      · subst o3
        clear o1 q1 o2 q2 o33 h33
        have o33 : ((3 : Int) != 33) = true := rfl
        by_cases k1 : 0 ≤ k
        · have hb := Lib.hid (show decide (k < 256) = mayI ⟨3, a, b, c, k, 0⟩ p by rw [hmt.out]; show _ = (true && (decide (0 ≤ k ∧ k ≤ 255) && true)); rw [Bool.true_and, Bool.and_true]; rw [decide_eq_decide]; omega)
          go_wp2
          go_ret
          exact ⟨ret_b hb.out, B2.out⟩
        · have hb := Lib.hid (show false = mayI ⟨3, a, b, c, k, 0⟩ p by rw [hmt.out]; show _ = (true && (decide (0 ≤ k ∧ k ≤ 255) && true)); rw [Bool.true_and, Bool.and_true]; rw [decide_eq_false (by omega)])
          go_wp2
          go_ret
          exact ⟨ret_b hb.out, B2.out⟩
      have q3 : (op == 3) = false := by rw [beq_eq_false_iff_ne]; exact o3
      by_cases om : 29 ≤ op
      · have hb := Lib.hid (show consts op k 0 = mayI ⟨op, a, b, c, k, 0⟩ p by
          rw [hmt.out, show insTail ⟨op, a, b, c, k, 0⟩ = true by
            unfold insTail
            rw [if_neg o1, if_neg o2, if_neg o3, if_neg h33]
            by_cases hm : 29 ≤ op ∧ op ≤ 32
            · rw [if_pos hm]; rfl
            · exfalso
              have : ar op = -1 := by unfold ar; rw [if_pos (by omega)]
              rw [HA.out] at this
              omega]
          rw [Bool.and_true])
        go_wp2_with fail
        refine use_b (rConsts_any op k 0 _) ?_
        intro w3 hb3
        go_wp2
        go_ret
        exact ⟨ret_b hb.out, bl_tr B2.out hb3.out⟩
      have hb := Lib.hid (show (k == 0) = mayI ⟨op, a, b, c, k, 0⟩ p by
        rw [hmt.out, show consts op k 0 = true by unfold consts; rw [if_neg (by omega), if_neg (by omega), if_neg (by omega), if_neg (by omega)], Bool.true_and]
        unfold insTail
        rw [if_neg o1, if_neg o2, if_neg o3, if_neg h33, if_neg (show ¬ (29 ≤ op ∧ op ≤ 32) by omega)]
        by_cases h : k = 0 <;> simp [h])
      go_wp2
      go_ret
      exact ⟨ret_b hb.out, B2.out⟩
set_option maxRecDepth 20000 in
set_option maxHeartbeats 4000000 in
theorem rmay_any (n : Ins) (p : Int) (w : World) (hw : n.wf) (hp : 0 ≤ p ∧ p ≤ 9223372036854775807) :
    Calls Try.prog 85 #[n.val, .int .i64 p] w fun e w' => e = .returned (.bool (mayI n p)) ∧ Below w.heap.size w w' := by
  obtain ⟨op, a, b, c, k, s⟩ := n
  by_cases h33 : op = 33
  · subst h33
    exact rmay_33 33 a b c k s p w hw.k hp
  by_cases hs : s = 0
  · subst hs
    exact rmay_0 op a b c k 0 p w hw.k hp h33
  have hb := Lib.hid (show false = mayI ⟨op, a, b, c, k, s⟩ p by
    unfold mayI insTail
    simp only [if_neg h33, decide_eq_false hs, Bool.and_false]
    simp)
  have o33 : (op != 33) = true := by rw [bne_iff_ne]; exact h33
  have os : (s != 0) = true := by rw [bne_iff_ne]; exact hs
  simp only [Ins.val, Ins.cells]
  obtain ⟨A, hA⟩ : ∃ A, ar op = A := ⟨_, rfl⟩
  have HA := Lib.hid hA
  clear hA hw
  go_enter Try.func85, Try.ntmps85
  go_wp2_with fail
  refine use_b (rArity_any op _) ?_
  rw [HA.out]
  intro w1 hb1
  have c0 := keepc hb1 (blk_cell (blk_new w _) 0)
  have c5 := keepc hb1 (blk_cell (blk_new w _) 5)
  by_cases h0 : A < 0
  all_goals
    go_wp2
    go_ret
    exact ⟨ret_b hb.out, bl_tr (bl1 _) hb1.out⟩
end Go.Proofs.Ytehcimecmbcdfaa
