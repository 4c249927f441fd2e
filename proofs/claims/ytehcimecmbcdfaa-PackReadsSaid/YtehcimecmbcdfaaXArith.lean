/- Contracts: what operators take (arith.Arity, Word, Constants and the reference's). -/
import Derived.Test.YtehcimecmbcdfaaXLib
set_option linter.unusedSimpArgs false
set_option linter.unusedVariables false
namespace Go.Proofs.Ytehcimecmbcdfaa
open Go.RowKit

/-- how many registers an operator takes -/
def ar (op : Int) : Int :=
  if op < 1 ∨ op = 4 ∨ 33 < op then -1 else if op < 4 then 0 else if op < 8 ∨ 28 < op then 1 else if op < 26 then 2 else 3
def wordB (x : Int) : Bool := decide (-2147483648 ≤ x ∧ x ≤ 2147483647)
def consts (op k s : Int) : Bool :=
  if op = 29 ∨ op = 30 then decide (0 ≤ k ∧ k ≤ 31)
  else if op = 31 then decide (0 ≤ k ∧ k ≤ 2147483647)
  else if op = 32 then wordB k
  else if op = 33 then decide (1 ≤ k ∧ k ≤ 4611686018427387904 ∧ 0 ≤ s ∧ s ≤ 62)
  else true
theorem op_cases (op : Int) : (op < 1 ∨ 33 < op) ∨ op = 1 ∨ op = 2 ∨ op = 3 ∨ op = 4 ∨ op = 5 ∨ op = 6 ∨ op = 7 ∨ op = 8 ∨ op = 9 ∨ op = 10 ∨ op = 11 ∨ op = 12 ∨ op = 13 ∨ op = 14 ∨ op = 15 ∨ op = 16 ∨ op = 17 ∨ op = 18 ∨ op = 19 ∨ op = 20 ∨ op = 21 ∨ op = 22 ∨ op = 23 ∨ op = 24 ∨ op = 25 ∨ op = 26 ∨ op = 27 ∨ op = 28 ∨ op = 29 ∨ op = 30 ∨ op = 31 ∨ op = 32 ∨ op = 33 := by omega
set_option maxHeartbeats 4000000 in
theorem arity_any (op : Int) (w : World) : Calls Try.prog 88 #[.int .i64 op] w fun e w' => e = .returned (.int .i64 (ar op)) ∧ Below w.heap.size w w' := by
  rcases op_cases op with h | h
  · have e0 : ar op = -1 := by unfold ar; rw [if_pos (by omega)]
    rw [e0]
    clear e0
    have q1 : (op == 1) = false := by rw [beq_eq_false_iff_ne]; omega
    have q2 : (op == 2) = false := by rw [beq_eq_false_iff_ne]; omega
    have q3 : (op == 3) = false := by rw [beq_eq_false_iff_ne]; omega
    have q5 : (op == 5) = false := by rw [beq_eq_false_iff_ne]; omega
    have q6 : (op == 6) = false := by rw [beq_eq_false_iff_ne]; omega
    have q7 : (op == 7) = false := by rw [beq_eq_false_iff_ne]; omega
    have q26 : (op == 26) = false := by rw [beq_eq_false_iff_ne]; omega
    have q27 : (op == 27) = false := by rw [beq_eq_false_iff_ne]; omega
    have q28 : (op == 28) = false := by rw [beq_eq_false_iff_ne]; omega
    have q29 : (op == 29) = false := by rw [beq_eq_false_iff_ne]; omega
    have q30 : (op == 30) = false := by rw [beq_eq_false_iff_ne]; omega
    have q31 : (op == 31) = false := by rw [beq_eq_false_iff_ne]; omega
    have q32 : (op == 32) = false := by rw [beq_eq_false_iff_ne]; omega
    have q33 : (op == 33) = false := by rw [beq_eq_false_iff_ne]; omega
    rcases h with h | h
    · have t1 : decide (8 ≤ op) = false := decide_eq_false (by omega)
      go_enter Try.func88, Try.ntmps88
      go_wp2
      go_ret
      exact ⟨rfl, by repeat (first | exact Below.refl _ _ | apply bl_alloc | apply bl_drew | apply bl_drewN | (refine bl_tr' (by assumption) ?_))⟩
    · have t1 : decide (8 ≤ op) = true := decide_eq_true (by omega)
      have t2 : decide (op ≤ 25) = false := decide_eq_false (by omega)
      go_enter Try.func88, Try.ntmps88
      go_wp2
      go_ret
      exact ⟨rfl, by repeat (first | exact Below.refl _ _ | apply bl_alloc | apply bl_drew | apply bl_drewN | (refine bl_tr' (by assumption) ?_))⟩
  · rcases h with rfl | rfl | rfl | rfl | rfl | rfl | rfl | rfl | rfl | rfl | rfl | rfl | rfl | rfl | rfl | rfl | rfl | rfl | rfl | rfl | rfl | rfl | rfl | rfl | rfl | rfl | rfl | rfl | rfl | rfl | rfl | rfl | rfl
    all_goals
      go_enter Try.func88, Try.ntmps88
      go_wp2
      go_ret
      exact ⟨rfl, by repeat (first | exact Below.refl _ _ | apply bl_alloc | apply bl_drew | apply bl_drewN | (refine bl_tr' (by assumption) ?_))⟩
set_option maxHeartbeats 4000000 in
theorem rArity_any (op : Int) (w : World) : Calls Try.prog 77 #[.int .i64 op] w fun e w' => e = .returned (.int .i64 (ar op)) ∧ Below w.heap.size w w' := by
  rcases op_cases op with h | h
  · have e0 : ar op = -1 := by unfold ar; rw [if_pos (by omega)]
    rw [e0]
    clear e0
    have q4 : (op == 4) = false := by rw [beq_eq_false_iff_ne]; omega
    rcases h with h | h
    · go_enter Try.func77, Try.ntmps77
      go_wp2
      go_ret
      exact ⟨rfl, by repeat (first | exact Below.refl _ _ | apply bl_alloc | apply bl_drew | apply bl_drewN | (refine bl_tr' (by assumption) ?_))⟩
    · have t1 : decide (op < 1) = false := decide_eq_false (by omega)
      go_enter Try.func77, Try.ntmps77
      go_wp2
      go_ret
      exact ⟨rfl, by repeat (first | exact Below.refl _ _ | apply bl_alloc | apply bl_drew | apply bl_drewN | (refine bl_tr' (by assumption) ?_))⟩
  · rcases h with rfl | rfl | rfl | rfl | rfl | rfl | rfl | rfl | rfl | rfl | rfl | rfl | rfl | rfl | rfl | rfl | rfl | rfl | rfl | rfl | rfl | rfl | rfl | rfl | rfl | rfl | rfl | rfl | rfl | rfl | rfl | rfl | rfl
    all_goals
      go_enter Try.func77, Try.ntmps77
      go_wp2
      go_ret
      exact ⟨rfl, by repeat (first | exact Below.refl _ _ | apply bl_alloc | apply bl_drew | apply bl_drewN | (refine bl_tr' (by assumption) ?_))⟩
theorem word_conv {x : Int} (h : -9223372036854775808 ≤ x ∧ x ≤ 9223372036854775807) : (wrap64 (wrap32 x) == x) = wordB x := by
  unfold wordB
  by_cases h1 : -2147483648 ≤ x ∧ x ≤ 2147483647
  · rw [decide_eq_true h1, beq_iff_eq]; unfold wrap64 wrap32; omega
  · rw [decide_eq_false h1, beq_eq_false_iff_ne]; unfold wrap64 wrap32; omega
theorem word_any (x : Int) (w : World) (h : -9223372036854775808 ≤ x ∧ x ≤ 9223372036854775807) : Calls Try.prog 90 #[.int .i64 x] w fun e w' => e = .returned (.bool (wordB x)) ∧ Below w.heap.size w w' := by
  have hw := Lib.hid (word_conv h)
  clear h
  go_enter Try.func90, Try.ntmps90
  go_wp2
  go_ret
  exact ⟨ret_b hw.out, by repeat (first | exact Below.refl _ _ | apply bl_alloc | apply bl_drew | apply bl_drewN | (refine bl_tr' (by assumption) ?_))⟩
theorem rWord_any (x : Int) (w : World) : Calls Try.prog 91 #[.int .i64 x] w fun e w' => e = .returned (.bool (wordB x)) ∧ Below w.heap.size w w' := by
  by_cases h : -2147483648 ≤ x
  · have hb := Lib.hid (show decide (x ≤ 2147483647) = wordB x by unfold wordB; by_cases h2 : x ≤ 2147483647 <;> simp [h, h2])
    go_enter Try.func91, Try.ntmps91
    go_wp2
    go_ret
    exact ⟨ret_b hb.out, by repeat (first | exact Below.refl _ _ | apply bl_alloc | apply bl_drew | apply bl_drewN | (refine bl_tr' (by assumption) ?_))⟩
  · have hb := Lib.hid (show false = wordB x by unfold wordB; simp [h])
    go_enter Try.func91, Try.ntmps91
    go_wp2
    go_ret
    exact ⟨ret_b hb.out, by repeat (first | exact Below.refl _ _ | apply bl_alloc | apply bl_drew | apply bl_drewN | (refine bl_tr' (by assumption) ?_))⟩
set_option maxHeartbeats 4000000 in
theorem consts_any (op k s : Int) (w : World) (hk : -9223372036854775808 ≤ k ∧ k ≤ 9223372036854775807) : Calls Try.prog 89 #[.int .i64 op, .int .i64 k, .int .i64 s] w fun e w' => e = .returned (.bool (consts op k s)) ∧ Below w.heap.size w w' := by
  by_cases h1 : op = 29 ∨ op = 30
  · rcases h1 with rfl | rfl
    all_goals
      by_cases h2 : 0 ≤ k
      · have hb := Lib.hid (show decide (k ≤ 31) = decide (0 ≤ k ∧ k ≤ 31) by rw [decide_eq_decide]; omega)
        go_enter Try.func89, Try.ntmps89
        go_wp2
        go_ret
        exact ⟨ret_b hb.out, by repeat (first | exact Below.refl _ _ | apply bl_alloc | apply bl_drew | apply bl_drewN | (refine bl_tr' (by assumption) ?_))⟩
      · have hb := Lib.hid (show false = decide (0 ≤ k ∧ k ≤ 31) from (decide_eq_false (by omega)).symm)
        go_enter Try.func89, Try.ntmps89
        go_wp2
        go_ret
        exact ⟨ret_b hb.out, by repeat (first | exact Below.refl _ _ | apply bl_alloc | apply bl_drew | apply bl_drewN | (refine bl_tr' (by assumption) ?_))⟩
  by_cases h31 : op = 31
  · subst h31
    clear h1
    by_cases h2 : 0 ≤ k
    · have hb := Lib.hid (show wordB k = decide (0 ≤ k ∧ k ≤ 2147483647) by unfold wordB; rw [decide_eq_decide]; omega)
      go_enter Try.func89, Try.ntmps89
      go_wp2_with (first | (go_at_call 90; refine use_b (word_any k _ hk) ?_; intro w1 hb1))
      go_ret
      exact ⟨ret_b hb.out, by repeat (first | exact Below.refl _ _ | apply bl_alloc | apply bl_drew | apply bl_drewN | (refine bl_tr' (by assumption) ?_))⟩
    · have hb := Lib.hid (show false = decide (0 ≤ k ∧ k ≤ 2147483647) from (decide_eq_false (by omega)).symm)
      go_enter Try.func89, Try.ntmps89
      go_wp2
      go_ret
      exact ⟨ret_b hb.out, by repeat (first | exact Below.refl _ _ | apply bl_alloc | apply bl_drew | apply bl_drewN | (refine bl_tr' (by assumption) ?_))⟩
  by_cases h32 : op = 32
  · subst h32
    clear h1 h31
    go_enter Try.func89, Try.ntmps89
    go_wp2_with (first | (go_at_call 90; refine use_b (word_any k _ hk) ?_; intro w1 hb1))
    go_ret
    exact ⟨rfl, by repeat (first | exact Below.refl _ _ | apply bl_alloc | apply bl_drew | apply bl_drewN | (refine bl_tr' (by assumption) ?_))⟩
  by_cases h33 : op = 33
  · subst h33
    clear h1 h31 h32
    by_cases a1 : 1 ≤ k
    · by_cases a2 : k ≤ 4611686018427387904
      · by_cases a3 : 0 ≤ s
        · have hb := Lib.hid (show decide (s ≤ 62) = decide (1 ≤ k ∧ k ≤ 4611686018427387904 ∧ 0 ≤ s ∧ s ≤ 62) by rw [decide_eq_decide]; omega)
          have a1' : 0 < k := by omega
          go_enter Try.func89, Try.ntmps89
          go_wp2
          go_ret
          exact ⟨ret_b hb.out, by repeat (first | exact Below.refl _ _ | apply bl_alloc | apply bl_drew | apply bl_drewN | (refine bl_tr' (by assumption) ?_))⟩
        · have hb := Lib.hid (show false = decide (1 ≤ k ∧ k ≤ 4611686018427387904 ∧ 0 ≤ s ∧ s ≤ 62) from (decide_eq_false (by omega)).symm)
          have a1' : 0 < k := by omega
          go_enter Try.func89, Try.ntmps89
          go_wp2
          go_ret
          exact ⟨ret_b hb.out, by repeat (first | exact Below.refl _ _ | apply bl_alloc | apply bl_drew | apply bl_drewN | (refine bl_tr' (by assumption) ?_))⟩
      · have hb := Lib.hid (show false = decide (1 ≤ k ∧ k ≤ 4611686018427387904 ∧ 0 ≤ s ∧ s ≤ 62) from (decide_eq_false (by omega)).symm)
        have a1' : 0 < k := by omega
        go_enter Try.func89, Try.ntmps89
        go_wp2
        go_ret
        exact ⟨ret_b hb.out, by repeat (first | exact Below.refl _ _ | apply bl_alloc | apply bl_drew | apply bl_drewN | (refine bl_tr' (by assumption) ?_))⟩
    · have hb := Lib.hid (show false = decide (1 ≤ k ∧ k ≤ 4611686018427387904 ∧ 0 ≤ s ∧ s ≤ 62) from (decide_eq_false (by omega)).symm)
      have a1' : ¬ 0 < k := by omega
      go_enter Try.func89, Try.ntmps89
      go_wp2
      go_ret
      exact ⟨ret_b hb.out, by repeat (first | exact Below.refl _ _ | apply bl_alloc | apply bl_drew | apply bl_drewN | (refine bl_tr' (by assumption) ?_))⟩
  have hb := Lib.hid (show true = consts op k s by unfold consts; rw [if_neg h1, if_neg h31, if_neg h32, if_neg h33])
  have q29 : (op == 29) = false := by rw [beq_eq_false_iff_ne]; omega
  have q30 : (op == 30) = false := by rw [beq_eq_false_iff_ne]; omega
  have q31 : (op == 31) = false := by rw [beq_eq_false_iff_ne]; omega
  have q32 : (op == 32) = false := by rw [beq_eq_false_iff_ne]; omega
  have q33 : (op == 33) = false := by rw [beq_eq_false_iff_ne]; omega
  clear h1 h31 h32 h33
  go_enter Try.func89, Try.ntmps89
  go_wp2
  go_ret
  exact ⟨ret_b hb.out, by repeat (first | exact Below.refl _ _ | apply bl_alloc | apply bl_drew | apply bl_drewN | (refine bl_tr' (by assumption) ?_))⟩
set_option maxHeartbeats 4000000 in
theorem rConsts_any (op k s : Int) (w : World) : Calls Try.prog 92 #[.int .i64 op, .int .i64 k, .int .i64 s] w fun e w' => e = .returned (.bool (consts op k s)) ∧ Below w.heap.size w w' := by
  by_cases h1 : op = 29 ∨ op = 30
  · rcases h1 with rfl | rfl
    all_goals
      by_cases h2 : 0 ≤ k
      · have hb := Lib.hid (show decide (k < 32) = decide (0 ≤ k ∧ k ≤ 31) by rw [decide_eq_decide]; omega)
        go_enter Try.func92, Try.ntmps92
        go_wp2
        go_ret
        exact ⟨ret_b hb.out, by repeat (first | exact Below.refl _ _ | apply bl_alloc | apply bl_drew | apply bl_drewN | (refine bl_tr' (by assumption) ?_))⟩
      · have hb := Lib.hid (show false = decide (0 ≤ k ∧ k ≤ 31) from (decide_eq_false (by omega)).symm)
        go_enter Try.func92, Try.ntmps92
        go_wp2
        go_ret
        exact ⟨ret_b hb.out, by repeat (first | exact Below.refl _ _ | apply bl_alloc | apply bl_drew | apply bl_drewN | (refine bl_tr' (by assumption) ?_))⟩
  by_cases h31 : op = 31
  · subst h31
    clear h1
    by_cases h2 : 0 ≤ k
    · have hb := Lib.hid (show decide (k ≤ 2147483647) = decide (0 ≤ k ∧ k ≤ 2147483647) by rw [decide_eq_decide]; omega)
      go_enter Try.func92, Try.ntmps92
      go_wp2
      go_ret
      exact ⟨ret_b hb.out, by repeat (first | exact Below.refl _ _ | apply bl_alloc | apply bl_drew | apply bl_drewN | (refine bl_tr' (by assumption) ?_))⟩
    · have hb := Lib.hid (show false = decide (0 ≤ k ∧ k ≤ 2147483647) from (decide_eq_false (by omega)).symm)
      go_enter Try.func92, Try.ntmps92
      go_wp2
      go_ret
      exact ⟨ret_b hb.out, by repeat (first | exact Below.refl _ _ | apply bl_alloc | apply bl_drew | apply bl_drewN | (refine bl_tr' (by assumption) ?_))⟩
  by_cases h32 : op = 32
  · subst h32
    clear h1 h31
    go_enter Try.func92, Try.ntmps92
    go_wp2_with (first | (go_at_call 91; refine use_b (rWord_any k _) ?_; intro w1 hb1))
    go_ret
    exact ⟨rfl, by repeat (first | exact Below.refl _ _ | apply bl_alloc | apply bl_drew | apply bl_drewN | (refine bl_tr' (by assumption) ?_))⟩
  by_cases h33 : op = 33
  · subst h33
    clear h1 h31 h32
    by_cases a1 : 1 ≤ k
    · by_cases a2 : k ≤ 4611686018427387904
      · by_cases a3 : 0 ≤ s
        · have hb := Lib.hid (show decide (s < 63) = decide (1 ≤ k ∧ k ≤ 4611686018427387904 ∧ 0 ≤ s ∧ s ≤ 62) by rw [decide_eq_decide]; omega)
          have a1' : 0 < k := by omega
          go_enter Try.func92, Try.ntmps92
          go_wp2
          go_ret
          exact ⟨ret_b hb.out, by repeat (first | exact Below.refl _ _ | apply bl_alloc | apply bl_drew | apply bl_drewN | (refine bl_tr' (by assumption) ?_))⟩
        · have hb := Lib.hid (show false = decide (1 ≤ k ∧ k ≤ 4611686018427387904 ∧ 0 ≤ s ∧ s ≤ 62) from (decide_eq_false (by omega)).symm)
          have a1' : 0 < k := by omega
          go_enter Try.func92, Try.ntmps92
          go_wp2
          go_ret
          exact ⟨ret_b hb.out, by repeat (first | exact Below.refl _ _ | apply bl_alloc | apply bl_drew | apply bl_drewN | (refine bl_tr' (by assumption) ?_))⟩
      · have hb := Lib.hid (show false = decide (1 ≤ k ∧ k ≤ 4611686018427387904 ∧ 0 ≤ s ∧ s ≤ 62) from (decide_eq_false (by omega)).symm)
        have a1' : 0 < k := by omega
        go_enter Try.func92, Try.ntmps92
        go_wp2
        go_ret
        exact ⟨ret_b hb.out, by repeat (first | exact Below.refl _ _ | apply bl_alloc | apply bl_drew | apply bl_drewN | (refine bl_tr' (by assumption) ?_))⟩
    · have hb := Lib.hid (show false = decide (1 ≤ k ∧ k ≤ 4611686018427387904 ∧ 0 ≤ s ∧ s ≤ 62) from (decide_eq_false (by omega)).symm)
      have a1' : ¬ 0 < k := by omega
      go_enter Try.func92, Try.ntmps92
      go_wp2
      go_ret
      exact ⟨ret_b hb.out, by repeat (first | exact Below.refl _ _ | apply bl_alloc | apply bl_drew | apply bl_drewN | (refine bl_tr' (by assumption) ?_))⟩
  have hb := Lib.hid (show true = consts op k s by unfold consts; rw [if_neg h1, if_neg h31, if_neg h32, if_neg h33])
  have q29 : (op == 29) = false := by rw [beq_eq_false_iff_ne]; omega
  have q30 : (op == 30) = false := by rw [beq_eq_false_iff_ne]; omega
  have q31 : (op == 31) = false := by rw [beq_eq_false_iff_ne]; omega
  have q32 : (op == 32) = false := by rw [beq_eq_false_iff_ne]; omega
  have q33 : (op == 33) = false := by rw [beq_eq_false_iff_ne]; omega
  clear h1 h31 h32 h33
  go_enter Try.func92, Try.ntmps92
  go_wp2
  go_ret
  exact ⟨ret_b hb.out, by repeat (first | exact Below.refl _ _ | apply bl_alloc | apply bl_drew | apply bl_drewN | (refine bl_tr' (by assumption) ?_))⟩
end Go.Proofs.Ytehcimecmbcdfaa
