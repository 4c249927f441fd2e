/- Contract: what Roomy made is as it was (ref11.Held). -/
import Derived.Test.YtehcimecmbcdfaaXEqS
import Derived.Test.YtehcimecmbcdfaaXRoomyN
set_option linter.unusedSimpArgs false
set_option linter.unusedVariables false
namespace Go.Proofs.Ytehcimecmbcdfaa
open Go.RowKit

theorem RoomN.rd {w : World} {g cap : Nat} {l : List Ins} (h : RoomN w g cap l) : RdN w (some ⟨g, 0, none⟩) l := by
  obtain ⟨ho, h1, h2⟩ := h
  refine ⟨by omega, fun hn => ⟨_, rfl, fun j hj i hi => ?_⟩⟩
  have h3 := OwN.cells ho (j * 6 + i) ((l.getD j zIns).cells.getD i (.int .i64 0)) (by
    rw [flatC_append, List.getElem?_append_left (by rw [flatC_len]; omega)]
    exact flatC_get l j i hj hi)
  rw [add_add, add0]
  exact h3
theorem RoomN.mark {w : World} {g cap : Nat} {l : List Ins} (h : RoomN w g cap l) : w.cell? ⟨g, l.length * 6, none⟩ = some (.int .i64 7777) := by
  obtain ⟨ho, h1, h2⟩ := h
  refine OwN.cells ho (l.length * 6) _ ?_
  rw [flatC_append, List.getElem?_append_right (by rw [flatC_len]; exact Nat.le_refl _), flatC_len, Nat.sub_self]
  rfl
theorem RoomN.below {w w1 : World} {g cap : Nat} {l : List Ins} (h : RoomN w g cap l) (hb : Below w.heap.size w w1) : RoomN w1 g cap l := ⟨h.1.below hb, h.2⟩
theorem RoomN.kp {S : Nat → Prop} {w w1 : World} {g cap : Nat} {l : List Ins} (h : RoomN w g cap l) (hk : Kp S w w1) (hs : ¬ S g) : RoomN w1 g cap l :=
  ⟨h.1.kp hk (fun b hb e => by simp [Value.ownBlock] at hb; subst hb; exact hs e), h.2⟩
set_option maxRecDepth 100000 in
set_option maxHeartbeats 1000000 in
theorem heldN_any (f d : Int) (g cap : Nat) (B : Option Addr) (c' N : Nat) (l : List Ins) (out : Int) (w : World) (ha : RoomN w g cap l) (hb : RdN w B l) (hl : l.length = N) :
    Calls Try.prog 44 #[.agg #[.int .i64 f, .int .i64 d, .slice (some ⟨g, 0, none⟩) N cap, .int .i64 out], .agg #[.int .i64 f, .int .i64 d, .slice B N c', .int .i64 out]] w fun e w' => e = .returned (.bool true) ∧ Below w.heap.size w w' := by
  have HA := Lib.hid ha
  have HB := Lib.hid hb
  have HL := Lib.hid hl
  have hc1 := ha.2.1
  have hc2 := ha.2.2
  rw [hl] at hc1
  have hcut := cut_roomN Try.underlying62 info_ins g N cap (N + 1) (by omega) (by omega)
  have MM : Hid (∀ W : World, Below w.heap.size w W → W.cell? ⟨g, N * 6, none⟩ = some (.int .i64 7777)) := fun W h => by have := (ha.below h).mark; rwa [hl] at this
  simp only [Int.natCast_add, Int.cast_ofNat_Int] at hcut
  clear ha hb hl
  have hsm := fun W h1 h2 => Lib.hid (rsame_len f d (some ⟨g, 0, none⟩) B cap c' N l l out W h1 h2 HL.out HL.out)
  rw [codEq_yes ⟨rfl, rfl, rfl, rfl⟩] at hsm
  go_enter Try.func44, Try.ntmps44
  go_wp2_with fail
  have b0 : Hid (((w.alloc (.cells #[.int .i64 f, .int .i64 d, .slice (some ⟨g, 0, none⟩) N cap, .int .i64 out] 64)).alloc (.cells #[.int .i64 f, .int .i64 d, .slice B N c', .int .i64 out] 64)).heap[w.heap.size]? = some (.cells #[.int .i64 f, .int .i64 d, .slice (some ⟨g, 0, none⟩) N cap, .int .i64 out] 64)) := blk_below (blk_new w _) (bl1 _)
  have b1 : Hid (((w.alloc (.cells #[.int .i64 f, .int .i64 d, .slice (some ⟨g, 0, none⟩) N cap, .int .i64 out] 64)).alloc (.cells #[.int .i64 f, .int .i64 d, .slice B N c', .int .i64 out] 64)).heap[w.heap.size + 1]? = some (.cells #[.int .i64 f, .int .i64 d, .slice B N c', .int .i64 out] 64)) := Lib.hid (by have h := blk_new (w.alloc (.cells #[.int .i64 f, .int .i64 d, .slice (some ⟨g, 0, none⟩) N cap, .int .i64 out] 64)) (.cells #[.int .i64 f, .int .i64 d, .slice B N c', .int .i64 out] 64); simp only [World.size_alloc] at h; exact h)
  have HBW : Hid (Below w.heap.size w ((w.alloc (.cells #[.int .i64 f, .int .i64 d, .slice (some ⟨g, 0, none⟩) N cap, .int .i64 out] 64)).alloc (.cells #[.int .i64 f, .int .i64 d, .slice B N c', .int .i64 out] 64))) := by repeat (first | exact Below.refl _ _ | apply bl_alloc | apply bl_drew | apply bl_drewN | (refine bl_tr' (by assumption) ?_))
  generalize ((w.alloc (.cells #[.int .i64 f, .int .i64 d, .slice (some ⟨g, 0, none⟩) N cap, .int .i64 out] 64)).alloc (.cells #[.int .i64 f, .int .i64 d, .slice B N c', .int .i64 out] 64)) = W0 at b0 b1 HBW ⊢
  have SS : Hid (∀ W' : World, Below W0.heap.size W0 W' → (W'.cell? ⟨w.heap.size, 0, none⟩ = some (.int .i64 f) ∧ W'.cell? ⟨w.heap.size, 1, none⟩ = some (.int .i64 d) ∧ W'.cell? ⟨w.heap.size, 2, none⟩ = some (.slice (some ⟨g, 0, none⟩) N cap) ∧ W'.cell? ⟨w.heap.size, 3, none⟩ = some (.int .i64 out) ∧ W'.cell? ⟨w.heap.size + 1, 0, none⟩ = some (.int .i64 f) ∧ W'.cell? ⟨w.heap.size + 1, 1, none⟩ = some (.int .i64 d) ∧ W'.cell? ⟨w.heap.size + 1, 2, none⟩ = some (.slice B N c') ∧ W'.cell? ⟨w.heap.size + 1, 3, none⟩ = some (.int .i64 out) ∧ W'.cell? ⟨g, N * 6, none⟩ = some (.int .i64 7777))) := fun W' hb =>
    ⟨keepc (Lib.hid hb) (blk_cell b0.out 0), keepc (Lib.hid hb) (blk_cell b0.out 1), keepc (Lib.hid hb) (blk_cell b0.out 2), keepc (Lib.hid hb) (blk_cell b0.out 3), keepc (Lib.hid hb) (blk_cell b1.out 0), keepc (Lib.hid hb) (blk_cell b1.out 1), keepc (Lib.hid hb) (blk_cell b1.out 2), keepc (Lib.hid hb) (blk_cell b1.out 3), MM.out _ (bl_tr HBW.out hb)⟩
  obtain ⟨s0, s1, s2, s3, s4, s5, s6, s7, s8⟩ := SS.out W0 (Below.refl _ _)
  have n1 : 0 ≤ (N : Int) + 1 := by omega
  have n2 : (N : Int) + 1 ≤ 9223372036854775807 := by omega
  have n3 : IntKind.i64.wrap ((N : Int) + 1) = (N : Int) + 1 := IntWalk.i64_in _ (by omega)
  have n4 : 0 ≤ (N : Int) := by omega
  have n5 : (N : Int) < (N : Int) + 1 := by omega
  have n6 : N < N + 1 := by omega
  go_region_held3 (fun W' => W'.cell? ⟨w.heap.size, 0, none⟩ = some (.int .i64 f) ∧ W'.cell? ⟨w.heap.size, 1, none⟩ = some (.int .i64 d) ∧ W'.cell? ⟨w.heap.size, 2, none⟩ = some (.slice (some ⟨g, 0, none⟩) N cap) ∧ W'.cell? ⟨w.heap.size, 3, none⟩ = some (.int .i64 out) ∧ W'.cell? ⟨w.heap.size + 1, 0, none⟩ = some (.int .i64 f) ∧ W'.cell? ⟨w.heap.size + 1, 1, none⟩ = some (.int .i64 d) ∧ W'.cell? ⟨w.heap.size + 1, 2, none⟩ = some (.slice B N c') ∧ W'.cell? ⟨w.heap.size + 1, 3, none⟩ = some (.int .i64 out) ∧ W'.cell? ⟨g, N * 6, none⟩ = some (.int .i64 7777)) (first | go_keep | (refine SS.out _ ?_; solve | (repeat (first | exact Below.refl _ _ | apply bl_alloc | apply bl_drew | apply bl_drewN | (refine bl_tr' (by assumption) ?_)))) | fail) (first | (go_at_call 47; refine use_b (hsm _ (HA.out.rd.below (bl_tr HBW.out (by repeat (first | exact Below.refl _ _ | apply bl_alloc | apply bl_drew | apply bl_drewN | (refine bl_tr' (by assumption) ?_))))) (HB.out.below (bl_tr HBW.out (by repeat (first | exact Below.refl _ _ | apply bl_alloc | apply bl_drew | apply bl_drewN | (refine bl_tr' (by assumption) ?_)))))).out ?_; intro w1 hb1) | fail)
  all_goals
    go_wp2
    go_ret
    exact ⟨rfl, bl_tr HBW.out (by repeat (first | exact Below.refl _ _ | apply bl_alloc | apply bl_drew | apply bl_drewN | (refine bl_tr' (by assumption) ?_)))⟩
end Go.Proofs.Ytehcimecmbcdfaa
