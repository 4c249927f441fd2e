/- Contracts: the registers that an instruction reads (code.Args, ref11.Args). -/
import Derived.Test.YtehcimecmbcdfaaXMay
import Derived.Test.YtehcimecmbcdfaaXRowV
import Derived.Test.YtehcimecmbcdfaaXRoomy
set_option linter.unusedSimpArgs false
set_option linter.unusedVariables false
namespace Go.Proofs.Ytehcimecmbcdfaa
open Go.RowKit

theorem info_i64 : (Try.prog.info? 3).map (fun i => (i.zero, i.size, i.bytes)) = some (some (.int .i64 0), 1, 8) := by kernel_rfl
def Ins.args (n : Ins) : List Int := [n.a, n.b, n.c].take (ar n.op).toNat
theorem args_cases (op : Int) : ar op = -1 ∨ ar op = 0 ∨ ar op = 1 ∨ ar op = 2 ∨ ar op = 3 := by have := ar_le op; omega
set_option maxRecDepth 20000 in
set_option maxHeartbeats 4000000 in
theorem args_any (n : Ins) (w : World) :
    Calls Try.prog 84 #[n.val] w (OwnPost w 3 .i64 n.args) := by
  obtain ⟨op, a, b, c, k, s⟩ := n
  simp only [Ins.val, Ins.cells]
  obtain ⟨A, hA⟩ : ∃ A, ar op = A := ⟨_, rfl⟩
  have HA := Lib.hid hA
  have hA5 := args_cases op
  rw [hA] at hA5
  have hargs := Lib.hid (show Ins.args ⟨op, a, b, c, k, s⟩ = [a, b, c].take A.toNat by unfold Ins.args; rw [hA])
  clear hA
  go_enter Try.func84, Try.ntmps84
  go_wp2_with fail
  refine use_b (arity_any op _) ?_
  rw [HA.out]
  intro w1 hb1
  have ho := Lib.hid ((OwI.lit (W := (w.alloc (.cells (Ins.cells ⟨op, a, b, c, k, s⟩) 92)).alloc (.cells #[.int .i64 a, .int .i64 b, .int .i64 c] 112)) (base := w.heap.size) (E := 3) (k := .i64) [] (by simp; omega) (by simp)).below hb1.out)
  have hblk := Lib.hid (blk_below (blk_below (blk_new (w.alloc (.cells (Ins.cells ⟨op, a, b, c, k, s⟩) 92)) (.cells #[.int .i64 a, .int .i64 b, .int .i64 c] 112)) (bl1 (.cells #[] 3))) hb1.out)
  have B1 := Lib.hid (bl_tr (bl_alloc (bl_alloc (bl1 (w := w) (.cells (Ins.cells ⟨op, a, b, c, k, s⟩) 92)) (.cells #[.int .i64 a, .int .i64 b, .int .i64 c] 112)) (.cells #[] 3)) hb1.out)
  have hs1 := B1.out.size
  have hrd : Hid (∀ m, m ≤ 3 → RdS w1 .i64 (.slice (some ⟨w.heap.size + 1, 0, none⟩) m 3) ([a, b, c].take m)) := fun m hm => by
    have hlen : ([a, b, c].take m).length = m := by rw [List.length_take]; simp; omega
    refine ⟨_, 3, by rw [hlen], by rw [hlen]; exact hm, (fun h => by cases h), by rw [hlen]; omega, fun _ => ⟨_, rfl, fun j hj => ?_⟩⟩
    rw [hlen] at hj
    have h3 : j = 0 ∨ j = 1 ∨ j = 2 := by omega
    have hb := hblk.out
    simp only [World.size_alloc] at hb
    rw [add0, blk_cell hb j]
    rcases h3 with rfl | rfl | rfl <;> simp [List.getD_eq_getElem?_getD, List.getElem?_take, hj]
  have ho1 : Hid (OwI w1 w.heap.size 3 .i64 (.slice (some ⟨w.heap.size + 2, 0, none⟩) 0 0) []) := by show OwI w1 w.heap.size 3 .i64 (.slice (some ⟨w.heap.size + 1 + 1, 0, none⟩) 0 0) []; have := ho.out; simpa using this
  clear ho hblk hb1
  rcases hA5 with rfl | rfl | rfl | rfl | rfl
  · have hr := Lib.hid (hrd.out 0 (by omega))
    go_wp2_with (at_builtin; refine ap_row w.heap.size rfl (.tmp 11) (.tmp 16) 53 3 .i64 8 rfl Try.underlying53 info_i64 (by decide) (.slice (some ⟨w.heap.size + 2, 0, none⟩) 0 0) [] (.slice (some ⟨w.heap.size + 1, 0, none⟩) 0 3) ([a, b, c].take 0) rfl rfl ho1.out hr.out hs1 (by simp) 0 (by simp) ?_; intro A1 c1 w2 hO2 hg2 hat2)
    go_ret
    exact ⟨_, rfl, by rw [hargs.out]; exact hO2.out, bl_grown B1.out ho1.out hs1 hg2.out⟩
  · have hr := Lib.hid (hrd.out 0 (by omega))
    go_wp2_with (at_builtin; refine ap_row w.heap.size rfl (.tmp 11) (.tmp 16) 53 3 .i64 8 rfl Try.underlying53 info_i64 (by decide) (.slice (some ⟨w.heap.size + 2, 0, none⟩) 0 0) [] (.slice (some ⟨w.heap.size + 1, 0, none⟩) 0 3) ([a, b, c].take 0) rfl rfl ho1.out hr.out hs1 (by simp) 0 (by simp) ?_; intro A1 c1 w2 hO2 hg2 hat2)
    go_ret
    exact ⟨_, rfl, by rw [hargs.out]; exact hO2.out, bl_grown B1.out ho1.out hs1 hg2.out⟩
  · have hr := Lib.hid (hrd.out 1 (by omega))
    go_wp2_with (at_builtin; refine ap_row w.heap.size rfl (.tmp 11) (.tmp 16) 53 3 .i64 8 rfl Try.underlying53 info_i64 (by decide) (.slice (some ⟨w.heap.size + 2, 0, none⟩) 0 0) [] (.slice (some ⟨w.heap.size + 1, 0, none⟩) 1 3) ([a, b, c].take 1) rfl rfl ho1.out hr.out hs1 (by simp) 1 (by simp) ?_; intro A1 c1 w2 hO2 hg2 hat2)
    go_ret
    exact ⟨_, rfl, by rw [hargs.out]; exact hO2.out, bl_grown B1.out ho1.out hs1 hg2.out⟩
  · have hr := Lib.hid (hrd.out 2 (by omega))
    go_wp2_with (at_builtin; refine ap_row w.heap.size rfl (.tmp 11) (.tmp 16) 53 3 .i64 8 rfl Try.underlying53 info_i64 (by decide) (.slice (some ⟨w.heap.size + 2, 0, none⟩) 0 0) [] (.slice (some ⟨w.heap.size + 1, 0, none⟩) 2 3) ([a, b, c].take 2) rfl rfl ho1.out hr.out hs1 (by simp) 2 (by simp) ?_; intro A1 c1 w2 hO2 hg2 hat2)
    go_ret
    exact ⟨_, rfl, by rw [hargs.out]; exact hO2.out, bl_grown B1.out ho1.out hs1 hg2.out⟩
  · have hr := Lib.hid (hrd.out 3 (by omega))
    go_wp2_with (at_builtin; refine ap_row w.heap.size rfl (.tmp 11) (.tmp 16) 53 3 .i64 8 rfl Try.underlying53 info_i64 (by decide) (.slice (some ⟨w.heap.size + 2, 0, none⟩) 0 0) [] (.slice (some ⟨w.heap.size + 1, 0, none⟩) 3 3) ([a, b, c].take 3) rfl rfl ho1.out hr.out hs1 (by simp) 3 (by simp) ?_; intro A1 c1 w2 hO2 hg2 hat2)
    go_ret
    exact ⟨_, rfl, by rw [hargs.out]; exact hO2.out, bl_grown B1.out ho1.out hs1 hg2.out⟩
set_option maxRecDepth 20000 in
set_option maxHeartbeats 4000000 in
theorem rArgs_any (n : Ins) (w : World) :
    Calls Try.prog 68 #[n.val] w (OwnPost w 3 .i64 n.args) := by
  obtain ⟨op, a, b, c, k, s⟩ := n
  simp only [Ins.val, Ins.cells]
  obtain ⟨A, hA⟩ : ∃ A, ar op = A := ⟨_, rfl⟩
  have HA := Lib.hid hA
  have hA5 := args_cases op
  rw [hA] at hA5
  have hargs := Lib.hid (show Ins.args ⟨op, a, b, c, k, s⟩ = [a, b, c].take A.toNat by unfold Ins.args; rw [hA])
  clear hA
  go_enter Try.func68, Try.ntmps68
  go_wp2_with fail
  refine use_b (rArity_any op _) ?_
  rw [HA.out]
  intro w1 hb1
  have c1 := keepc hb1 (blk_cell (blk_new w _) 1)
  have c2 := keepc hb1 (blk_cell (blk_new w _) 2)
  have c3 := keepc hb1 (blk_cell (blk_new w _) 3)
  have B1 := Lib.hid (bl_tr (bl1 (w := w) (.cells (Ins.cells ⟨op, a, b, c, k, s⟩) 92)) hb1.out)
  have hs1 := B1.out.size
  have how : Hid (∀ m, m ≤ 3 → OwI (w1.alloc (.cells #[.int .i64 a, .int .i64 b, .int .i64 c] 3)) w.heap.size 3 .i64 (.slice (some ⟨w1.heap.size, 0, none⟩) m 3) ([a, b, c].take m)) := fun m hm => by
    have hlen : ([a, b, c].take m).length = m := by rw [List.length_take]; simp; omega
    refine ⟨by simp, .inr ⟨w1.heap.size, 3, #[.int .i64 a, .int .i64 b, .int .i64 c], by rw [hlen], hs1, blk_new _ _, by rw [hlen]; exact hm, by simp only [maxLen]; omega, rfl, ?_⟩⟩
    rw [hlen, Nat.mul_one, List.map_take]
    rfl
  rcases hA5 with rfl | rfl | rfl | rfl | rfl
  · have hr := Lib.hid (how.out 0 (by omega))
    have hcut := cut_room (k := .i64) (bytes := 8) Try.underlying53 info_i64 w1.heap.size 3 3 0 (by omega) (by omega)
    go_wp2
    go_ret
    exact ⟨_, rfl, by rw [hargs.out]; exact hr.out, bl_tr B1.out (bl1 _)⟩
  · have hr := Lib.hid (how.out 0 (by omega))
    have hcut := cut_room (k := .i64) (bytes := 8) Try.underlying53 info_i64 w1.heap.size 3 3 0 (by omega) (by omega)
    go_wp2
    go_ret
    exact ⟨_, rfl, by rw [hargs.out]; exact hr.out, bl_tr B1.out (bl1 _)⟩
  · have hr := Lib.hid (how.out 1 (by omega))
    have hcut := cut_room (k := .i64) (bytes := 8) Try.underlying53 info_i64 w1.heap.size 3 3 1 (by omega) (by omega)
    go_wp2
    go_ret
    exact ⟨_, rfl, by rw [hargs.out]; exact hr.out, bl_tr B1.out (bl1 _)⟩
  · have hr := Lib.hid (how.out 2 (by omega))
    have hcut := cut_room (k := .i64) (bytes := 8) Try.underlying53 info_i64 w1.heap.size 3 3 2 (by omega) (by omega)
    go_wp2
    go_ret
    exact ⟨_, rfl, by rw [hargs.out]; exact hr.out, bl_tr B1.out (bl1 _)⟩
  · have hr := Lib.hid (how.out 3 (by omega))
    have hcut := cut_room (k := .i64) (bytes := 8) Try.underlying53 info_i64 w1.heap.size 3 3 3 (by omega) (by omega)
    go_wp2
    go_ret
    exact ⟨_, rfl, by rw [hargs.out]; exact hr.out, bl_tr B1.out (bl1 _)⟩
end Go.Proofs.Ytehcimecmbcdfaa
