/- The walks of the laws CodecFolds and CodecWraps. -/
import Derived.Test.YtehcimecmbcdfaaXFold
set_option linter.unusedSimpArgs false
set_option linter.unusedVariables false
namespace Go.Proofs.Ytehcimecmbcdfaa
open Go.RowKit

set_option maxHeartbeats 1000000 in
theorem wCodecFolds (f d x g s : Int) (w : World) :
    Calls Try.prog 3 #[.agg #[.int .i64 f, .int .i64 d], .int .i64 x, .int .i64 g, .int .i64 s] w fun e w' => e = .returned (.bool true) ∧ Below w.heap.size w w' := by
  by_cases hF0 : KIn f d x ∧ KIn f d g <;> by_cases hU0 : KIn f d g ∧ 0 ≤ s ∧ s < 2 ^ d.toNat
  all_goals
    have hF := Lib.hid hF0
    have hU := Lib.hid hU0
    clear hF0 hU0
  · go_enter Try.func3, Try.ntmps3
    go_wp2_with (first | (go_at_call 16; refine use_b (cFold_yes f d x g _ hF.out.1 hF.out.2) ?_; intro w1 hb1; have q0 : w1.cell? ⟨w.heap.size, 0, none⟩ = some (.int .i64 f) := keepc hb1 (by first | assumption | (go_simp; done)); have q1 : w1.cell? ⟨w.heap.size, 1, none⟩ = some (.int .i64 d) := keepc hb1 (by first | assumption | (go_simp; done))) | (go_at_call 17; refine use_b (rFold_yes f d x g _ hF.out.1 hF.out.2) ?_; intro w2 hb2; have q0 : w2.cell? ⟨w.heap.size, 0, none⟩ = some (.int .i64 f) := keepc hb2 (by first | assumption | (go_simp; done)); have q1 : w2.cell? ⟨w.heap.size, 1, none⟩ = some (.int .i64 d) := keepc hb2 (by first | assumption | (go_simp; done))) | (go_at_call 18; refine use_b (cUnfold_yes f d g s _ hU.out.1 hU.out.2.1 hU.out.2.2) ?_; intro w3 hb3; have q0 : w3.cell? ⟨w.heap.size, 0, none⟩ = some (.int .i64 f) := keepc hb3 (by first | assumption | (go_simp; done)); have q1 : w3.cell? ⟨w.heap.size, 1, none⟩ = some (.int .i64 d) := keepc hb3 (by first | assumption | (go_simp; done))) | (go_at_call 19; refine use_b (rUnfold_yes f d g s _ hU.out.1 hU.out.2.1 hU.out.2.2) ?_; intro w4 hb4; have q0 : w4.cell? ⟨w.heap.size, 0, none⟩ = some (.int .i64 f) := keepc hb4 (by first | assumption | (go_simp; done)); have q1 : w4.cell? ⟨w.heap.size, 1, none⟩ = some (.int .i64 d) := keepc hb4 (by first | assumption | (go_simp; done))) | (go_at_call 20; refine use_b (awake27 _) ?_; intro w5 hb5; have q0 : w5.cell? ⟨w.heap.size, 0, none⟩ = some (.int .i64 f) := keepc hb5 (by first | assumption | (go_simp; done)); have q1 : w5.cell? ⟨w.heap.size, 1, none⟩ = some (.int .i64 d) := keepc hb5 (by first | assumption | (go_simp; done))))
    go_ret
    exact ⟨by first | rfl | (simp; done), by repeat (first | exact Below.refl _ _ | apply bl_alloc | apply bl_drew | apply bl_drewN | (refine bl_tr' (by assumption) ?_))⟩
  · go_enter Try.func3, Try.ntmps3
    go_wp2_with (first | (go_at_call 16; refine use_b (cFold_yes f d x g _ hF.out.1 hF.out.2) ?_; intro w1 hb1; have q0 : w1.cell? ⟨w.heap.size, 0, none⟩ = some (.int .i64 f) := keepc hb1 (by first | assumption | (go_simp; done)); have q1 : w1.cell? ⟨w.heap.size, 1, none⟩ = some (.int .i64 d) := keepc hb1 (by first | assumption | (go_simp; done))) | (go_at_call 17; refine use_b (rFold_yes f d x g _ hF.out.1 hF.out.2) ?_; intro w2 hb2; have q0 : w2.cell? ⟨w.heap.size, 0, none⟩ = some (.int .i64 f) := keepc hb2 (by first | assumption | (go_simp; done)); have q1 : w2.cell? ⟨w.heap.size, 1, none⟩ = some (.int .i64 d) := keepc hb2 (by first | assumption | (go_simp; done))) | (go_at_call 18; refine use_b (cUnfold_no f d g s _ hU.out) ?_; intro w3 hb3; have q0 : w3.cell? ⟨w.heap.size, 0, none⟩ = some (.int .i64 f) := keepc hb3 (by first | assumption | (go_simp; done)); have q1 : w3.cell? ⟨w.heap.size, 1, none⟩ = some (.int .i64 d) := keepc hb3 (by first | assumption | (go_simp; done))) | (go_at_call 19; refine use_b (rUnfold_no f d g s _ hU.out) ?_; intro w4 hb4; have q0 : w4.cell? ⟨w.heap.size, 0, none⟩ = some (.int .i64 f) := keepc hb4 (by first | assumption | (go_simp; done)); have q1 : w4.cell? ⟨w.heap.size, 1, none⟩ = some (.int .i64 d) := keepc hb4 (by first | assumption | (go_simp; done))) | (go_at_call 20; refine use_b (awake27 _) ?_; intro w5 hb5; have q0 : w5.cell? ⟨w.heap.size, 0, none⟩ = some (.int .i64 f) := keepc hb5 (by first | assumption | (go_simp; done)); have q1 : w5.cell? ⟨w.heap.size, 1, none⟩ = some (.int .i64 d) := keepc hb5 (by first | assumption | (go_simp; done))))
    go_ret
    exact ⟨by first | rfl | (simp; done), by repeat (first | exact Below.refl _ _ | apply bl_alloc | apply bl_drew | apply bl_drewN | (refine bl_tr' (by assumption) ?_))⟩
  · go_enter Try.func3, Try.ntmps3
    go_wp2_with (first | (go_at_call 16; refine use_b (cFold_no f d x g _ hF.out) ?_; intro w1 hb1; have q0 : w1.cell? ⟨w.heap.size, 0, none⟩ = some (.int .i64 f) := keepc hb1 (by first | assumption | (go_simp; done)); have q1 : w1.cell? ⟨w.heap.size, 1, none⟩ = some (.int .i64 d) := keepc hb1 (by first | assumption | (go_simp; done))) | (go_at_call 17; refine use_b (rFold_no f d x g _ hF.out) ?_; intro w2 hb2; have q0 : w2.cell? ⟨w.heap.size, 0, none⟩ = some (.int .i64 f) := keepc hb2 (by first | assumption | (go_simp; done)); have q1 : w2.cell? ⟨w.heap.size, 1, none⟩ = some (.int .i64 d) := keepc hb2 (by first | assumption | (go_simp; done))) | (go_at_call 18; refine use_b (cUnfold_yes f d g s _ hU.out.1 hU.out.2.1 hU.out.2.2) ?_; intro w3 hb3; have q0 : w3.cell? ⟨w.heap.size, 0, none⟩ = some (.int .i64 f) := keepc hb3 (by first | assumption | (go_simp; done)); have q1 : w3.cell? ⟨w.heap.size, 1, none⟩ = some (.int .i64 d) := keepc hb3 (by first | assumption | (go_simp; done))) | (go_at_call 19; refine use_b (rUnfold_yes f d g s _ hU.out.1 hU.out.2.1 hU.out.2.2) ?_; intro w4 hb4; have q0 : w4.cell? ⟨w.heap.size, 0, none⟩ = some (.int .i64 f) := keepc hb4 (by first | assumption | (go_simp; done)); have q1 : w4.cell? ⟨w.heap.size, 1, none⟩ = some (.int .i64 d) := keepc hb4 (by first | assumption | (go_simp; done))) | (go_at_call 20; refine use_b (awake27 _) ?_; intro w5 hb5; have q0 : w5.cell? ⟨w.heap.size, 0, none⟩ = some (.int .i64 f) := keepc hb5 (by first | assumption | (go_simp; done)); have q1 : w5.cell? ⟨w.heap.size, 1, none⟩ = some (.int .i64 d) := keepc hb5 (by first | assumption | (go_simp; done))))
    go_ret
    exact ⟨by first | rfl | (simp; done), by repeat (first | exact Below.refl _ _ | apply bl_alloc | apply bl_drew | apply bl_drewN | (refine bl_tr' (by assumption) ?_))⟩
  · go_enter Try.func3, Try.ntmps3
    go_wp2_with (first | (go_at_call 16; refine use_b (cFold_no f d x g _ hF.out) ?_; intro w1 hb1; have q0 : w1.cell? ⟨w.heap.size, 0, none⟩ = some (.int .i64 f) := keepc hb1 (by first | assumption | (go_simp; done)); have q1 : w1.cell? ⟨w.heap.size, 1, none⟩ = some (.int .i64 d) := keepc hb1 (by first | assumption | (go_simp; done))) | (go_at_call 17; refine use_b (rFold_no f d x g _ hF.out) ?_; intro w2 hb2; have q0 : w2.cell? ⟨w.heap.size, 0, none⟩ = some (.int .i64 f) := keepc hb2 (by first | assumption | (go_simp; done)); have q1 : w2.cell? ⟨w.heap.size, 1, none⟩ = some (.int .i64 d) := keepc hb2 (by first | assumption | (go_simp; done))) | (go_at_call 18; refine use_b (cUnfold_no f d g s _ hU.out) ?_; intro w3 hb3; have q0 : w3.cell? ⟨w.heap.size, 0, none⟩ = some (.int .i64 f) := keepc hb3 (by first | assumption | (go_simp; done)); have q1 : w3.cell? ⟨w.heap.size, 1, none⟩ = some (.int .i64 d) := keepc hb3 (by first | assumption | (go_simp; done))) | (go_at_call 19; refine use_b (rUnfold_no f d g s _ hU.out) ?_; intro w4 hb4; have q0 : w4.cell? ⟨w.heap.size, 0, none⟩ = some (.int .i64 f) := keepc hb4 (by first | assumption | (go_simp; done)); have q1 : w4.cell? ⟨w.heap.size, 1, none⟩ = some (.int .i64 d) := keepc hb4 (by first | assumption | (go_simp; done))) | (go_at_call 20; refine use_b (awake27 _) ?_; intro w5 hb5; have q0 : w5.cell? ⟨w.heap.size, 0, none⟩ = some (.int .i64 f) := keepc hb5 (by first | assumption | (go_simp; done)); have q1 : w5.cell? ⟨w.heap.size, 1, none⟩ = some (.int .i64 d) := keepc hb5 (by first | assumption | (go_simp; done))))
    go_ret
    exact ⟨by first | rfl | (simp; done), by repeat (first | exact Below.refl _ _ | apply bl_alloc | apply bl_drew | apply bl_drewN | (refine bl_tr' (by assumption) ?_))⟩

theorem fold_facts {f d x y g : Int} (hx : KIn f d x) (hy : KIn f d y) (hg : KIn f d g) :
    unfoldS f d g (symOf (foldD d (x - g))) = x ∧ 0 ≤ symOf (foldD d (x - g)) ∧ symOf (foldD d (x - g)) < 2 ^ d.toNat ∧ -2 ^ d.toNat ≤ 2 * foldD d (x - g) ∧ 2 * foldD d (x - g) < 2 ^ d.toNat ∧
    (x - g - foldD d (x - g)).tmod (2 ^ d.toNat) = 0 ∧ (x ≠ y → foldD d (x - g) ≠ foldD d (y - g) ∧ symOf (foldD d (x - g)) ≠ symOf (foldD d (y - g))) := by
  have hk := hx.1
  obtain ⟨b1, b2, b3, b4, b5, b6, b7, b8⟩ := kbounds hk
  obtain ⟨-, x1, x2⟩ := hx
  obtain ⟨-, y1, y2⟩ := hy
  obtain ⟨-, g1, g2⟩ := hg
  have e1 := foldD_cases (d := d) (x := x - g) hk.2.1 hk.2.2 (by omega)
  have e2 := foldD_cases (d := d) (x := y - g) hk.2.1 hk.2.2 (by omega)
  have hs : 0 ≤ symOf (foldD d (x - g)) ∧ symOf (foldD d (x - g)) < 2 ^ d.toNat := by
    rw [e1]; unfold symOf; split <;> (try split) <;> (try split) <;> omega
  have hu : unSym (symOf (foldD d (x - g))) = foldD d (x - g) := by
    unfold unSym symOf
    by_cases h0 : foldD d (x - g) < 0
    · rw [if_pos h0, if_neg (by omega)]; omega
    · rw [if_neg h0, if_pos (by omega)]; omega
  refine ⟨?_, hs.1, hs.2, ?_, ?_, ?_, fun hne => ?_⟩
  · rw [unfoldS_cases ⟨hk, g1, g2⟩ hs.1 hs.2, hu, e1]
    split <;> (try split) <;> (try split) <;> (try split) <;> omega
  · rw [e1]; split <;> (try split) <;> omega
  · rw [e1]; split <;> (try split) <;> omega
  · have h : x - g - foldD d (x - g) = 2 ^ d.toNat * 1 ∨ x - g - foldD d (x - g) = 2 ^ d.toNat * (-1) ∨ x - g - foldD d (x - g) = 2 ^ d.toNat * 0 := by
      rw [e1]; split <;> (try split) <;> omega
    rcases h with h | h | h <;> rw [h] <;> exact Int.mul_tmod_right _ _
  · have h1 : foldD d (x - g) ≠ foldD d (y - g) := by
      rw [e1, e2]; split <;> split <;> (try split) <;> (try split) <;> omega
    refine ⟨h1, ?_⟩
    unfold symOf; split <;> split <;> omega
set_option maxHeartbeats 1000000 in
theorem wCodecWraps_yes (f d x y g : Int) (w : World) (hx : KIn f d x) (hy : KIn f d y) (hg : KIn f d g) :
    Calls Try.prog 4 #[.agg #[.int .i64 f, .int .i64 d], .int .i64 x, .int .i64 y, .int .i64 g] w fun e w' => e = .returned (.bool true) ∧ Below w.heap.size w w' := by
  obtain ⟨h1, h2, h3, h4, h5, h6, h7⟩ := fold_facts hx hy hg
  obtain ⟨b1, b2, b3, b4, b5, b6, b7, b8⟩ := kbounds hx.1
  obtain ⟨r1, r2⟩ := foldD_range (x := x - g) hx.1.2.1 hx.1.2.2
  obtain ⟨r3, r4⟩ := foldD_range (x := y - g) hx.1.2.1 hx.1.2.2
  have HX := Lib.hid hx
  have HY := Lib.hid hy
  have HG := Lib.hid hg
  have HK := Lib.hid hx.1
  have H1 := Lib.hid h1
  obtain ⟨⟨-, hd1, hd2⟩, x1, x2⟩ := hx
  obtain ⟨-, y1, y2⟩ := hy
  obtain ⟨-, g1, g2⟩ := hg
  have hr : ∃ r, r = foldD d (x - g) := ⟨_, rfl⟩
  obtain ⟨r, hr⟩ := hr
  have hq : ∃ q, q = foldD d (y - g) := ⟨_, rfl⟩
  obtain ⟨q, hq⟩ := hq
  rw [← hr] at h2 h3 h4 h5 h6 h7 r1 r2
  rw [← hq] at h7 r3 r4
  have HR := Lib.hid hr
  have HQ := Lib.hid hq
  have H6 : ((x - g - r).tmod (2 ^ d.toNat) == 0) = true := by rw [h6]; rfl
  have H6' : ((x - g - r).tmod (2 ^ d.toNat) != 0) = false := by rw [h6]; rfl
  have hd0 : ¬ ((2:Int) ^ d.toNat = 0) := by omega
  clear hr hq h1 h6 b5 b8
  by_cases hxy : x = y
  · subst hxy
    have hqr := Lib.hid (show q = r by rw [HQ.out, HR.out])
    clear h7
    go_enter Try.func4, Try.ntmps4
    go_wp2_with fail
    refine use_b (cFold_yes f d x g _ HX.out HG.out) ?_
    rw [← HR.out]
    intro w1 hb1; have q0 : w1.cell? ⟨w.heap.size, 0, none⟩ = some (.int .i64 f) := keepc hb1 (by first | assumption | (go_simp; done)); have q1 : w1.cell? ⟨w.heap.size, 1, none⟩ = some (.int .i64 d) := keepc hb1 (by first | assumption | (go_simp; done))
    go_wp2_with fail
    refine use_b (cFold_yes f d x g _ HX.out HG.out) ?_
    rw [← HR.out]
    intro w2 hb2; have q0 : w2.cell? ⟨w.heap.size, 0, none⟩ = some (.int .i64 f) := keepc hb2 (by first | assumption | (go_simp; done)); have q1 : w2.cell? ⟨w.heap.size, 1, none⟩ = some (.int .i64 d) := keepc hb2 (by first | assumption | (go_simp; done))
    go_wp2_with (first | (go_at_call 20; refine use_b (awake27 _) ?_; intro w3 hb3; have q0 : w3.cell? ⟨w.heap.size, 0, none⟩ = some (.int .i64 f) := keepc hb3 (by first | assumption | (go_simp; done)); have q1 : w3.cell? ⟨w.heap.size, 1, none⟩ = some (.int .i64 d) := keepc hb3 (by first | assumption | (go_simp; done))) | (go_at_call 21; refine use_b (kCheck_ok _ _ _ HK.out) ?_; intro w4 hb4; have q0 : w4.cell? ⟨w.heap.size, 0, none⟩ = some (.int .i64 f) := keepc hb4 (by first | assumption | (go_simp; done)); have q1 : w4.cell? ⟨w.heap.size, 1, none⟩ = some (.int .i64 d) := keepc hb4 (by first | assumption | (go_simp; done))) | (go_at_call 18; refine use_b (cUnfold_yes f d g _ _ HG.out (by omega) (by omega)) ?_; rw [show unfoldS f d g (symOf r) = x by rw [HR.out]; exact H1.out]; intro w5 hb5; have q0 : w5.cell? ⟨w.heap.size, 0, none⟩ = some (.int .i64 f) := keepc hb5 (by first | assumption | (go_simp; done)); have q1 : w5.cell? ⟨w.heap.size, 1, none⟩ = some (.int .i64 d) := keepc hb5 (by first | assumption | (go_simp; done))))
    go_ret
    exact ⟨by first | rfl | (simp; done), by repeat (first | exact Below.refl _ _ | apply bl_alloc | apply bl_drew | apply bl_drewN | (refine bl_tr' (by assumption) ?_))⟩
  · have h8 := h7 hxy
    have t1 : (x == y) = false := by simpa using hxy
    have t2 : (r == q) = false := by simpa using h8.1
    have t3 : (symOf r == symOf q) = false := by simpa using h8.2
    clear h7 h8 hxy
    go_enter Try.func4, Try.ntmps4
    go_wp2_with fail
    refine use_b (cFold_yes f d x g _ HX.out HG.out) ?_
    rw [← HR.out]
    intro w1 hb1; have q0 : w1.cell? ⟨w.heap.size, 0, none⟩ = some (.int .i64 f) := keepc hb1 (by first | assumption | (go_simp; done)); have q1 : w1.cell? ⟨w.heap.size, 1, none⟩ = some (.int .i64 d) := keepc hb1 (by first | assumption | (go_simp; done))
    go_wp2_with fail
    refine use_b (cFold_yes f d y g _ HY.out HG.out) ?_
    rw [← HQ.out]
    intro w2 hb2; have q0 : w2.cell? ⟨w.heap.size, 0, none⟩ = some (.int .i64 f) := keepc hb2 (by first | assumption | (go_simp; done)); have q1 : w2.cell? ⟨w.heap.size, 1, none⟩ = some (.int .i64 d) := keepc hb2 (by first | assumption | (go_simp; done))
    go_wp2_with (first | (go_at_call 20; refine use_b (awake27 _) ?_; intro w3 hb3; have q0 : w3.cell? ⟨w.heap.size, 0, none⟩ = some (.int .i64 f) := keepc hb3 (by first | assumption | (go_simp; done)); have q1 : w3.cell? ⟨w.heap.size, 1, none⟩ = some (.int .i64 d) := keepc hb3 (by first | assumption | (go_simp; done))) | (go_at_call 21; refine use_b (kCheck_ok _ _ _ HK.out) ?_; intro w4 hb4; have q0 : w4.cell? ⟨w.heap.size, 0, none⟩ = some (.int .i64 f) := keepc hb4 (by first | assumption | (go_simp; done)); have q1 : w4.cell? ⟨w.heap.size, 1, none⟩ = some (.int .i64 d) := keepc hb4 (by first | assumption | (go_simp; done))) | (go_at_call 18; refine use_b (cUnfold_yes f d g _ _ HG.out (by omega) (by omega)) ?_; rw [show unfoldS f d g (symOf r) = x by rw [HR.out]; exact H1.out]; intro w5 hb5; have q0 : w5.cell? ⟨w.heap.size, 0, none⟩ = some (.int .i64 f) := keepc hb5 (by first | assumption | (go_simp; done)); have q1 : w5.cell? ⟨w.heap.size, 1, none⟩ = some (.int .i64 d) := keepc hb5 (by first | assumption | (go_simp; done))))
    go_ret
    exact ⟨by first | rfl | (simp; done), by repeat (first | exact Below.refl _ _ | apply bl_alloc | apply bl_drew | apply bl_drewN | (refine bl_tr' (by assumption) ?_))⟩

theorem wCodecWraps_no (f d x y g : Int) (w : World) (h : ¬ (KIn f d x ∧ KIn f d y ∧ KIn f d g)) :
    Calls Try.prog 4 #[.agg #[.int .i64 f, .int .i64 d], .int .i64 x, .int .i64 y, .int .i64 g] w fun e w' => e = .returned (.bool true) ∧ Below w.heap.size w w' := by
  by_cases hA : KIn f d x ∧ KIn f d g
  · have hB : ¬ (KIn f d y ∧ KIn f d g) := fun hB => h ⟨hA.1, hB.1, hA.2⟩
    have HA := Lib.hid hA
    have HB := Lib.hid hB
    clear hA hB h
    go_enter Try.func4, Try.ntmps4
    go_wp2_with fail
    refine use_b (cFold_yes f d x g _ HA.out.1 HA.out.2) ?_
    intro w1 hb1; have q0 : w1.cell? ⟨w.heap.size, 0, none⟩ = some (.int .i64 f) := keepc hb1 (by first | assumption | (go_simp; done)); have q1 : w1.cell? ⟨w.heap.size, 1, none⟩ = some (.int .i64 d) := keepc hb1 (by first | assumption | (go_simp; done))
    go_wp2_with fail
    refine use_b (cFold_no f d y g _ HB.out) ?_
    intro w2 hb2; have q0 : w2.cell? ⟨w.heap.size, 0, none⟩ = some (.int .i64 f) := keepc hb2 (by first | assumption | (go_simp; done)); have q1 : w2.cell? ⟨w.heap.size, 1, none⟩ = some (.int .i64 d) := keepc hb2 (by first | assumption | (go_simp; done))
    go_wp2_with (first | (go_at_call 20; refine use_b (awake27 _) ?_; intro w3 hb3; have q0 : w3.cell? ⟨w.heap.size, 0, none⟩ = some (.int .i64 f) := keepc hb3 (by first | assumption | (go_simp; done)); have q1 : w3.cell? ⟨w.heap.size, 1, none⟩ = some (.int .i64 d) := keepc hb3 (by first | assumption | (go_simp; done))))
    go_ret
    exact ⟨by first | rfl | (simp; done), by repeat (first | exact Below.refl _ _ | apply bl_alloc | apply bl_drew | apply bl_drewN | (refine bl_tr' (by assumption) ?_))⟩
  · by_cases hB : KIn f d y ∧ KIn f d g
    · have HA := Lib.hid hA
      have HB := Lib.hid hB
      clear hA hB h
      go_enter Try.func4, Try.ntmps4
      go_wp2_with fail
      refine use_b (cFold_no f d x g _ HA.out) ?_
      intro w1 hb1; have q0 : w1.cell? ⟨w.heap.size, 0, none⟩ = some (.int .i64 f) := keepc hb1 (by first | assumption | (go_simp; done)); have q1 : w1.cell? ⟨w.heap.size, 1, none⟩ = some (.int .i64 d) := keepc hb1 (by first | assumption | (go_simp; done))
      go_wp2_with fail
      refine use_b (cFold_yes f d y g _ HB.out.1 HB.out.2) ?_
      intro w2 hb2; have q0 : w2.cell? ⟨w.heap.size, 0, none⟩ = some (.int .i64 f) := keepc hb2 (by first | assumption | (go_simp; done)); have q1 : w2.cell? ⟨w.heap.size, 1, none⟩ = some (.int .i64 d) := keepc hb2 (by first | assumption | (go_simp; done))
      go_wp2_with (first | (go_at_call 20; refine use_b (awake27 _) ?_; intro w3 hb3; have q0 : w3.cell? ⟨w.heap.size, 0, none⟩ = some (.int .i64 f) := keepc hb3 (by first | assumption | (go_simp; done)); have q1 : w3.cell? ⟨w.heap.size, 1, none⟩ = some (.int .i64 d) := keepc hb3 (by first | assumption | (go_simp; done))))
      go_ret
      exact ⟨by first | rfl | (simp; done), by repeat (first | exact Below.refl _ _ | apply bl_alloc | apply bl_drew | apply bl_drewN | (refine bl_tr' (by assumption) ?_))⟩
    · have HA := Lib.hid hA
      have HB := Lib.hid hB
      clear hA hB h
      go_enter Try.func4, Try.ntmps4
      go_wp2_with fail
      refine use_b (cFold_no f d x g _ HA.out) ?_
      intro w1 hb1; have q0 : w1.cell? ⟨w.heap.size, 0, none⟩ = some (.int .i64 f) := keepc hb1 (by first | assumption | (go_simp; done)); have q1 : w1.cell? ⟨w.heap.size, 1, none⟩ = some (.int .i64 d) := keepc hb1 (by first | assumption | (go_simp; done))
      go_wp2_with fail
      refine use_b (cFold_no f d y g _ HB.out) ?_
      intro w2 hb2; have q0 : w2.cell? ⟨w.heap.size, 0, none⟩ = some (.int .i64 f) := keepc hb2 (by first | assumption | (go_simp; done)); have q1 : w2.cell? ⟨w.heap.size, 1, none⟩ = some (.int .i64 d) := keepc hb2 (by first | assumption | (go_simp; done))
      go_wp2_with (first | (go_at_call 20; refine use_b (awake27 _) ?_; intro w3 hb3; have q0 : w3.cell? ⟨w.heap.size, 0, none⟩ = some (.int .i64 f) := keepc hb3 (by first | assumption | (go_simp; done)); have q1 : w3.cell? ⟨w.heap.size, 1, none⟩ = some (.int .i64 d) := keepc hb3 (by first | assumption | (go_simp; done))))
      go_ret
      exact ⟨by first | rfl | (simp; done), by repeat (first | exact Below.refl _ _ | apply bl_alloc | apply bl_drew | apply bl_drewN | (refine bl_tr' (by assumption) ?_))⟩
theorem wCodecWraps (f d x y g : Int) (w : World) :
    Calls Try.prog 4 #[.agg #[.int .i64 f, .int .i64 d], .int .i64 x, .int .i64 y, .int .i64 g] w fun e w' => e = .returned (.bool true) ∧ Below w.heap.size w w' := by
  by_cases h : KIn f d x ∧ KIn f d y ∧ KIn f d g
  · exact wCodecWraps_yes f d x y g w h.1 h.2.1 h.2.2
  · exact wCodecWraps_no f d x y g w h
end Go.Proofs.Ytehcimecmbcdfaa
