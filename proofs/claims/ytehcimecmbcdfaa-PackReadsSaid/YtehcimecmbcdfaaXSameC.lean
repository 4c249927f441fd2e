/- Contract: are two codes alike (code.Same)? -/
import Derived.Test.YtehcimecmbcdfaaXEqS
set_option linter.unusedSimpArgs false
set_option linter.unusedVariables false
namespace Go.Proofs.Ytehcimecmbcdfaa
open Go.RowKit

set_option maxRecDepth 20000 in
set_option maxHeartbeats 400000 in
theorem csame_len (f d : Int) (A B : Option Addr) (c c' N : Nat) (l m : List Ins) (out : Int) (w : World) (ha : RdN w A l) (hb : RdN w B m) (hl : l.length = N) (hm : m.length = N) :
    Calls Try.prog 50 #[.agg #[.int .i64 f, .int .i64 d, .slice A N c, .int .i64 out], .agg #[.int .i64 f, .int .i64 d, .slice B N c', .int .i64 out]] w fun e w' => e = .returned (.bool (codEq f d l out f d m out)) ∧ Below w.heap.size w w' := by
  have hmax := ha.1
  rw [hl] at hmax
  have HA := Lib.hid ha
  have HB := Lib.hid hb
  have HL := Lib.hid hl
  have HM := Lib.hid hm
  have hk := eq_kind
  have hi := eq_ins
  clear ha hb hl hm
  go_enter Try.func50, Try.ntmps50
  go_wp2
  go_loopw [5, 6, 31] (fun _ _ i wr => SamNRel ((w.alloc (.cells #[.int .i64 f, .int .i64 d, .slice A N c, .int .i64 out] 64)).alloc (.cells #[.int .i64 f, .int .i64 d, .slice B N c', .int .i64 out] 64)) N l m i wr) (fun _ _ i _ => N - (intOf i).toNat)
  case atStart => exact ⟨0, Nat.zero_le _, rfl, fun j hj => absurd hj (Nat.not_lt_zero _), Below.refl _ _⟩
  case round =>
    obtain ⟨k, hk2, rfl, hok, hb⟩ := hrel
    have HOK := Lib.hid hok
    have HBk := Lib.hid hb
    have p2 : wr.cell? ⟨w.heap.size, 2, none⟩ = some (.slice A N c) := keepc HBk (blk_cell (blk_below (blk_new w (.cells #[.int .i64 f, .int .i64 d, .slice A N c, .int .i64 out] 64)) (bl1 _)) 2)
    have p3 : wr.cell? ⟨w.heap.size + 1, 2, none⟩ = some (.slice B N c') := keepc HBk (by have h := blk_cell (blk_new (w.alloc (.cells #[.int .i64 f, .int .i64 d, .slice A N c, .int .i64 out] 64)) (.cells #[.int .i64 f, .int .i64 d, .slice B N c', .int .i64 out] 64)) 2; simp only [World.size_alloc] at h; exact h)
    have BW := Lib.hid (bl_tr (show Below w.heap.size w ((w.alloc (.cells #[.int .i64 f, .int .i64 d, .slice A N c, .int .i64 out] 64)).alloc (.cells #[.int .i64 f, .int .i64 d, .slice B N c', .int .i64 out] 64)) from by repeat (first | exact Below.refl _ _ | apply bl_alloc | apply bl_drew | apply bl_drewN | (refine bl_tr' (by assumption) ?_))) HBk.out)
    clear hok hb
    by_cases hlt : k < N
    · obtain ⟨ad1, rfl, q0, q1, q2, q3, q4, q5⟩ := (HA.out.below BW.out).at_ k (by rw [HL.out]; exact hlt)
      obtain ⟨ad2, rfl, r0, r1, r2, r3, r4, r5⟩ := (HB.out.below BW.out).at_ k (by rw [HM.out]; exact hlt)
      obtain ⟨x, hx⟩ : ∃ x, l.getD k zIns = x := ⟨_, rfl⟩
      obtain ⟨y, hy⟩ : ∃ y, m.getD k zIns = y := ⟨_, rfl⟩
      rw [hx] at q0 q1 q2 q3 q4 q5
      rw [hy] at r0 r1 r2 r3 r4 r5
      have HX := Lib.hid hx
      have HY := Lib.hid hy
      clear hx hy
      have g0 : (0 : Int) ≤ (k : Int) := by omega
      have g1 : (k : Int) < (N : Int) := by omega
      by_cases he : x = y
      · subst he
        have hne := Lib.hid (show ∀ j, j < k + 1 → l.getD j zIns = m.getD j zIns from fun j hj => by
          by_cases h : j = k
          · subst h; rw [HX.out, HY.out]
          · exact HOK.out j (by omega))
        obtain ⟨x1, x2, x3, x4, x5, x6⟩ := x
        simp only at q0 q1 q2 q3 q4 q5 r0 r1 r2 r3 r4 r5
        go_wp2
        have HB2 : Hid (Below wr.heap.size wr (wr.alloc (.cells #[.int .i64 x1, .int .i64 x2, .int .i64 x3, .int .i64 x4, .int .i64 x5, .int .i64 x6] 92))) := bl1 _
        have n0 : (wr.alloc (.cells #[.int .i64 x1, .int .i64 x2, .int .i64 x3, .int .i64 x4, .int .i64 x5, .int .i64 x6] 92)).cell? ⟨wr.heap.size, 0, none⟩ = some (.int .i64 x1) := blk_cell (blk_new wr _) 0
        have n1 : (wr.alloc (.cells #[.int .i64 x1, .int .i64 x2, .int .i64 x3, .int .i64 x4, .int .i64 x5, .int .i64 x6] 92)).cell? ⟨wr.heap.size, 1, none⟩ = some (.int .i64 x2) := blk_cell (blk_new wr _) 1
        have n2 : (wr.alloc (.cells #[.int .i64 x1, .int .i64 x2, .int .i64 x3, .int .i64 x4, .int .i64 x5, .int .i64 x6] 92)).cell? ⟨wr.heap.size, 2, none⟩ = some (.int .i64 x3) := blk_cell (blk_new wr _) 2
        have n3 : (wr.alloc (.cells #[.int .i64 x1, .int .i64 x2, .int .i64 x3, .int .i64 x4, .int .i64 x5, .int .i64 x6] 92)).cell? ⟨wr.heap.size, 3, none⟩ = some (.int .i64 x4) := blk_cell (blk_new wr _) 3
        have n4 : (wr.alloc (.cells #[.int .i64 x1, .int .i64 x2, .int .i64 x3, .int .i64 x4, .int .i64 x5, .int .i64 x6] 92)).cell? ⟨wr.heap.size, 4, none⟩ = some (.int .i64 x5) := blk_cell (blk_new wr _) 4
        have n5 : (wr.alloc (.cells #[.int .i64 x1, .int .i64 x2, .int .i64 x3, .int .i64 x4, .int .i64 x5, .int .i64 x6] 92)).cell? ⟨wr.heap.size, 5, none⟩ = some (.int .i64 x6) := blk_cell (blk_new wr _) 5
        have r0 := keepc HB2 r0
        have r1 := keepc HB2 r1
        have r2 := keepc HB2 r2
        have r3 := keepc HB2 r3
        have r4 := keepc HB2 r4
        have r5 := keepc HB2 r5
        have p3 := keepc HB2 p3
        generalize (wr.alloc (.cells #[.int .i64 x1, .int .i64 x2, .int .i64 x3, .int .i64 x4, .int .i64 x5, .int .i64 x6] 92)) = W2 at *
        go_quiet (fail)
        go_wp2
        go_roundw
        case measure => simp [intOf]; omega
        case rel => exact ⟨k + 1, by omega, by go_num, hne.out, bl_drewN (bl_tr HBk.out HB2.out) _⟩
      · have hq := he
        rw [← insEq_iff, Bool.not_eq_true] at hq
        have hno := Lib.hid (show false = codEq f d l out f d m out from (codEq_no (fun h => he (by rw [← HX.out, ← HY.out, h.2.2.2]))).symm)
        obtain ⟨x1, x2, x3, x4, x5, x6⟩ := x
        obtain ⟨y1, y2, y3, y4, y5, y6⟩ := y
        simp only at q0 q1 q2 q3 q4 q5 r0 r1 r2 r3 r4 r5
        unfold insEq at hq
        simp only at hq
        have hq2 : (!(x1 == y1) || (!(x2 == y2) || (!(x3 == y3) || (!(x4 == y4) || (!(x5 == y5) || !(x6 == y6)))))) = true := by
          rw [← Bool.not_and, ← Bool.not_and, ← Bool.not_and, ← Bool.not_and, ← Bool.not_and, hq]; rfl
        clear he HX HY
        go_wp2
        have HB2 : Hid (Below wr.heap.size wr (wr.alloc (.cells #[.int .i64 x1, .int .i64 x2, .int .i64 x3, .int .i64 x4, .int .i64 x5, .int .i64 x6] 92))) := bl1 _
        have n0 : (wr.alloc (.cells #[.int .i64 x1, .int .i64 x2, .int .i64 x3, .int .i64 x4, .int .i64 x5, .int .i64 x6] 92)).cell? ⟨wr.heap.size, 0, none⟩ = some (.int .i64 x1) := blk_cell (blk_new wr _) 0
        have n1 : (wr.alloc (.cells #[.int .i64 x1, .int .i64 x2, .int .i64 x3, .int .i64 x4, .int .i64 x5, .int .i64 x6] 92)).cell? ⟨wr.heap.size, 1, none⟩ = some (.int .i64 x2) := blk_cell (blk_new wr _) 1
        have n2 : (wr.alloc (.cells #[.int .i64 x1, .int .i64 x2, .int .i64 x3, .int .i64 x4, .int .i64 x5, .int .i64 x6] 92)).cell? ⟨wr.heap.size, 2, none⟩ = some (.int .i64 x3) := blk_cell (blk_new wr _) 2
        have n3 : (wr.alloc (.cells #[.int .i64 x1, .int .i64 x2, .int .i64 x3, .int .i64 x4, .int .i64 x5, .int .i64 x6] 92)).cell? ⟨wr.heap.size, 3, none⟩ = some (.int .i64 x4) := blk_cell (blk_new wr _) 3
        have n4 : (wr.alloc (.cells #[.int .i64 x1, .int .i64 x2, .int .i64 x3, .int .i64 x4, .int .i64 x5, .int .i64 x6] 92)).cell? ⟨wr.heap.size, 4, none⟩ = some (.int .i64 x5) := blk_cell (blk_new wr _) 4
        have n5 : (wr.alloc (.cells #[.int .i64 x1, .int .i64 x2, .int .i64 x3, .int .i64 x4, .int .i64 x5, .int .i64 x6] 92)).cell? ⟨wr.heap.size, 5, none⟩ = some (.int .i64 x6) := blk_cell (blk_new wr _) 5
        have r0 := keepc HB2 r0
        have r1 := keepc HB2 r1
        have r2 := keepc HB2 r2
        have r3 := keepc HB2 r3
        have r4 := keepc HB2 r4
        have r5 := keepc HB2 r5
        have p3 := keepc HB2 p3
        generalize (wr.alloc (.cells #[.int .i64 x1, .int .i64 x2, .int .i64 x3, .int .i64 x4, .int .i64 x5, .int .i64 x6] 92)) = W2 at *
        go_quiet (fail)
        go_wp2
        go_ret
        exact ⟨ret_b hno.out, bl_drewN (bl_tr BW.out HB2.out) _⟩
    · have hyes := Lib.hid (show true = codEq f d l out f d m out from (codEq_yes ⟨rfl, rfl, rfl, list_ext_getD (by rw [HL.out, HM.out]) (fun j hj => HOK.out j (by rw [HL.out] at hj; omega))⟩).symm)
      go_wp2
      go_ret
      exact ⟨ret_b hyes.out, BW.out⟩
end Go.Proofs.Ytehcimecmbcdfaa
