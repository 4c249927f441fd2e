/- Contracts of the package kind's bounds and of the references'. -/
import Derived.Test.YtehcimecmbcdfaaXLib
set_option linter.unusedSimpArgs false
set_option linter.unusedVariables false
namespace Go.Proofs.Ytehcimecmbcdfaa
open Go.RowKit

def KOk (f d : Int) : Prop := (f = 0 ∨ f = 1) ∧ 1 ≤ d ∧ d ≤ 16
def klow (f d : Int) : Int := if f = 0 then 0 else -(2 ^ (d-1).toNat)
def khigh (f d : Int) : Int := klow f d + 2^d.toNat - 1

theorem KOk.cases {f d : Int} (h : KOk f d) : (f = 0 ∨ f = 1) ∧ (d = 1 ∨ d = 2 ∨ d = 3 ∨ d = 4 ∨ d = 5 ∨ d = 6 ∨ d = 7 ∨ d = 8 ∨ d = 9 ∨ d = 10 ∨ d = 11 ∨ d = 12 ∨ d = 13 ∨ d = 14 ∨ d = 15 ∨ d = 16) := by
  obtain ⟨h, h1, h2⟩ := h
  exact ⟨h, by omega⟩
theorem KOk.neg {f d : Int} (h : ¬ KOk f d) : (f ≠ 0 ∧ f ≠ 1) ∨ ((f = 0 ∨ f = 1) ∧ (d < 1 ∨ 16 < d)) := by unfold KOk at h; omega

theorem kCheck_ok (f d : Int) (w : World) (h : KOk f d) :
    Calls Try.prog 21 #[.agg #[.int .i64 f, .int .i64 d]] w fun e w' => e = .returned (.int .i64 0) ∧ Below w.heap.size w w' := by
  obtain ⟨hf, h1, h2⟩ := h
  rcases hf with rfl | rfl
  all_goals
    go_enter Try.func21, Try.ntmps21
    go_wp2
    go_ret
    exact ⟨rfl, bl1 _⟩
theorem kCheck_no (f d : Int) (w : World) (h : ¬ KOk f d) :
    Calls Try.prog 21 #[.agg #[.int .i64 f, .int .i64 d]] w fun e w' => e = .returned (.int .i64 1) ∧ Below w.heap.size w w' := by
  have h0 := KOk.neg h
  clear h
  rcases h0 with ⟨h1, h2⟩ | ⟨rfl | rfl, h1 | h1⟩
  · have e1 : (f == 0) = false := by simpa using h1
    have e2 : (f == 1) = false := by simpa using h2
    have e3 : (f != 0) = true := by simpa using h1
    have e4 : (f != 1) = true := by simpa using h2
    go_enter Try.func21, Try.ntmps21
    go_wp2
    go_ret
    exact ⟨rfl, bl1 _⟩
  all_goals
    go_enter Try.func21, Try.ntmps21
    go_wp2
    go_ret
    exact ⟨rfl, bl1 _⟩

theorem shl_low {d : Int} (h1 : 1 ≤ d) (h2 : d ≤ 16) : wrap64 (-2 ^ (d.toNat - 1)) = klow 1 d := by
  have h : d = 1 ∨ d = 2 ∨ d = 3 ∨ d = 4 ∨ d = 5 ∨ d = 6 ∨ d = 7 ∨ d = 8 ∨ d = 9 ∨ d = 10 ∨ d = 11 ∨ d = 12 ∨ d = 13 ∨ d = 14 ∨ d = 15 ∨ d = 16 := by omega
  rcases h with rfl | rfl | rfl | rfl | rfl | rfl | rfl | rfl | rfl | rfl | rfl | rfl | rfl | rfl | rfl | rfl <;> decide +kernel

theorem kLow_ok (f d : Int) (w : World) (h : KOk f d) :
    Calls Try.prog 51 #[.agg #[.int .i64 f, .int .i64 d]] w fun e w' => e = .returned (.int .i64 (klow f d)) ∧ Below w.heap.size w w' := by
  have H := Lib.hid h
  obtain ⟨hf, h1, h2⟩ := h
  have hs := Lib.hid (shl_low h1 h2)
  rcases hf with rfl | rfl
  · go_enter Try.func51, Try.ntmps51
    go_wp2_with (go_at_call 21; refine use_b (kCheck_ok _ _ _ H.out) ?_; intro w1 hb1; have q0 : w1.cell? ⟨w.heap.size, 0, none⟩ = some (.int .i64 0) := keepc hb1 (by first | assumption | (go_simp; done)); have q1 : w1.cell? ⟨w.heap.size, 1, none⟩ = some (.int .i64 d) := keepc hb1 (by first | assumption | (go_simp; done)))
    go_ret
    exact ⟨rfl, bl_tr (bl1 _) hb1.out⟩
  · go_enter Try.func51, Try.ntmps51
    go_wp2_with (go_at_call 21; refine use_b (kCheck_ok _ _ _ H.out) ?_; intro w1 hb1; have q0 : w1.cell? ⟨w.heap.size, 0, none⟩ = some (.int .i64 1) := keepc hb1 (by first | assumption | (go_simp; done)); have q1 : w1.cell? ⟨w.heap.size, 1, none⟩ = some (.int .i64 d) := keepc hb1 (by first | assumption | (go_simp; done)))
    go_ret
    exact ⟨by rw [← hs.out]; rfl, bl_tr (bl1 _) hb1.out⟩
theorem kLow_no (f d : Int) (w : World) (h : ¬ KOk f d) :
    Calls Try.prog 51 #[.agg #[.int .i64 f, .int .i64 d]] w fun e w' => e = .returned (.int .i64 0) ∧ Below w.heap.size w w' := by
  have H := Lib.hid h
  clear h
  go_enter Try.func51, Try.ntmps51
  go_wp2_with (go_at_call 21; refine use_b (kCheck_no _ _ _ H.out) ?_; intro w1 hb1; have q0 : w1.cell? ⟨w.heap.size, 0, none⟩ = some (.int .i64 f) := keepc hb1 (by first | assumption | (go_simp; done)); have q1 : w1.cell? ⟨w.heap.size, 1, none⟩ = some (.int .i64 d) := keepc hb1 (by first | assumption | (go_simp; done)))
  go_ret
  exact ⟨rfl, bl_tr (bl1 _) hb1.out⟩
theorem shl_high {f d : Int} (h : KOk f d) : IntKind.i64.wrap (IntKind.i64.wrap (klow f d + IntKind.i64.wrap (2 ^ d.toNat)) - 1) = khigh f d := by
  have h1 := (KOk.cases h).2
  rcases (KOk.cases h).1 with h0 | h0 <;> subst h0 <;> rcases h1 with (rfl | rfl | rfl | rfl | rfl | rfl | rfl | rfl | rfl | rfl | rfl | rfl | rfl | rfl | rfl | rfl) <;> decide +kernel
theorem kHigh_ok (f d : Int) (w : World) (h : KOk f d) :
    Calls Try.prog 52 #[.agg #[.int .i64 f, .int .i64 d]] w fun e w' => e = .returned (.int .i64 (khigh f d)) ∧ Below w.heap.size w w' := by
  have H := Lib.hid h
  have hs := Lib.hid (shl_high h)
  obtain ⟨hf, h1, h2⟩ := h
  go_enter Try.func52, Try.ntmps52
  go_wp2_with (go_at_call 21; refine use_b (kCheck_ok _ _ _ H.out) ?_; intro w1 hb1; have q0 : w1.cell? ⟨w.heap.size, 0, none⟩ = some (.int .i64 f) := keepc hb1 (by first | assumption | (go_simp; done)); have q1 : w1.cell? ⟨w.heap.size, 1, none⟩ = some (.int .i64 d) := keepc hb1 (by first | assumption | (go_simp; done)))
  go_region_held3 (fun w' => w'.cell? ⟨w.heap.size, 0, none⟩ = some (.int .i64 f) ∧ w'.cell? ⟨w.heap.size, 1, none⟩ = some (.int .i64 d)) (first | go_keep | (go_split_ands; exact ⟨keepc hb2 (by assumption), keepc hb2 (by assumption)⟩)) (first | (go_at_call 51; refine use_b (kLow_ok _ _ _ H.out) ?_; intro w2 hb2; have q0 : w2.cell? ⟨w.heap.size, 0, none⟩ = some (.int .i64 f) := keepc hb2 (by first | assumption | (go_simp; done)); have q1 : w2.cell? ⟨w.heap.size, 1, none⟩ = some (.int .i64 d) := keepc hb2 (by first | assumption | (go_simp; done))))
  go_wp2
  go_ret
  exact ⟨by rw [← hs.out]; rfl, by repeat (first | exact Below.refl _ _ | apply bl_alloc | apply bl_drew | apply bl_drewN | (refine bl_tr' (by assumption) ?_))⟩
theorem kHigh_no (f d : Int) (w : World) (h : ¬ KOk f d) :
    Calls Try.prog 52 #[.agg #[.int .i64 f, .int .i64 d]] w fun e w' => e = .returned (.int .i64 0) ∧ Below w.heap.size w w' := by
  have H := Lib.hid h
  clear h
  go_enter Try.func52, Try.ntmps52
  go_wp2_with (go_at_call 21; refine use_b (kCheck_no _ _ _ H.out) ?_; intro w1 hb1; have q0 : w1.cell? ⟨w.heap.size, 0, none⟩ = some (.int .i64 f) := keepc hb1 (by first | assumption | (go_simp; done)); have q1 : w1.cell? ⟨w.heap.size, 1, none⟩ = some (.int .i64 d) := keepc hb1 (by first | assumption | (go_simp; done)))
  go_ret
  exact ⟨rfl, bl_tr (bl1 _) hb1.out⟩

/-! the references -/
theorem rMay_ok (f d : Int) (w : World) (h : KOk f d) :
    Calls Try.prog 81 #[.agg #[.int .i64 f, .int .i64 d]] w fun e w' => e = .returned (.bool true) ∧ Below w.heap.size w w' := by
  obtain ⟨hf, h1, h2⟩ := h
  rcases hf with rfl | rfl
  all_goals
    go_enter Try.func81, Try.ntmps81
    go_wp2
    go_ret
    exact ⟨rfl, bl1 _⟩
theorem rMay_no (f d : Int) (w : World) (h : ¬ KOk f d) :
    Calls Try.prog 81 #[.agg #[.int .i64 f, .int .i64 d]] w fun e w' => e = .returned (.bool false) ∧ Below w.heap.size w w' := by
  have h0 := KOk.neg h
  clear h
  rcases h0 with ⟨h1, h2⟩ | ⟨rfl | rfl, h1 | h1⟩
  · have e1 : (f == 0) = false := by simpa using h1
    have e2 : (f == 1) = false := by simpa using h2
    go_enter Try.func81, Try.ntmps81
    go_wp2
    go_ret
    exact ⟨rfl, bl1 _⟩
  all_goals
    go_enter Try.func81, Try.ntmps81
    go_wp2
    go_ret
    exact ⟨by first | rfl | (simp; omega), bl1 _⟩
theorem pow_le (k : Nat) (h : k ≤ 60) : (2:Int) ^ k ≤ 1152921504606846976 ∧ 1 ≤ (2:Int)^k := by
  have h1 : (2:Nat)^k ≤ 2^60 := Nat.pow_le_pow_right (by decide) h
  have h2 : 0 < (2:Nat)^k := Nat.pow_pos (by decide)
  have h3 : ((2:Nat)^k : Int) = (2:Int)^k := by norm_cast
  omega
/-- a loop that doubles -/
theorem rPow (n : Int) (w : World) (h : n ≤ 60) :
    Calls Try.prog 82 #[.int .i64 n] w fun e w' => e = .returned (.int .i64 (2 ^ n.toNat)) ∧ Below w.heap.size w w' := by
  have hp := Lib.hid pow_le
  go_enter Try.func82, Try.ntmps82
  go_wp2
  go_loop [3, 4] (fun x i => ∃ k : Nat, (k : Int) ≤ max n 0 ∧ x = .int .i64 (2 ^ k) ∧ i = .int .i64 k) (fun _ i => n.toNat - (intOf i).toNat)
  case atStart => exact ⟨0, by omega, rfl, rfl⟩
  case round =>
    obtain ⟨k, hk, rfl, rfl⟩ := hrel
    by_cases hlt : (k : Int) < n
    · have hb := hp.out k (by omega)
      have hs := Lib.hid (Int.pow_succ 2 k)
      obtain ⟨q, hq⟩ : ∃ q : Int, q = 2 ^ k := ⟨_, rfl⟩
      rw [← hq] at hb ⊢
      have Hq := Lib.hid hq
      clear hq
      go_wp2
      go_round
      case rel => exact ⟨k + 1, by omega, by rw [hs.out, ← Hq.out]; go_num, by go_num⟩
      case measure => simp [intOf]; omega
    · go_wp2
      go_ret
      exact ⟨by rw [show n.toNat = k by omega]; rfl, Below.refl _ _⟩
theorem rPower (n : Int) (w : World) (h : n ≤ 60) :
    Calls Try.prog 55 #[.int .i64 n] w fun e w' => e = .returned (.int .i64 (2 ^ n.toNat)) ∧ Below w.heap.size w w' := by
  have hp := Lib.hid pow_le
  go_enter Try.func55, Try.ntmps55
  go_wp2
  go_loop [3, 4] (fun x i => ∃ k : Nat, (k : Int) ≤ max n 0 ∧ x = .int .i64 (2 ^ k) ∧ i = .int .i64 k) (fun _ i => n.toNat - (intOf i).toNat)
  case atStart => exact ⟨0, by omega, rfl, rfl⟩
  case round =>
    obtain ⟨k, hk, rfl, rfl⟩ := hrel
    by_cases hlt : (k : Int) < n
    · have hb := hp.out k (by omega)
      have hs := Lib.hid (Int.pow_succ 2 k)
      obtain ⟨q, hq⟩ : ∃ q : Int, q = 2 ^ k := ⟨_, rfl⟩
      rw [← hq] at hb ⊢
      have Hq := Lib.hid hq
      clear hq
      go_wp2
      go_round
      case rel => exact ⟨k + 1, by omega, by rw [hs.out, ← Hq.out]; go_num, by go_num⟩
      case measure => simp [intOf]; omega
    · go_wp2
      go_ret
      exact ⟨by rw [show n.toNat = k by omega]; rfl, Below.refl _ _⟩
theorem rLow_ok (f d : Int) (w : World) (h : KOk f d) :
    Calls Try.prog 57 #[.agg #[.int .i64 f, .int .i64 d]] w fun e w' => e = .returned (.int .i64 (klow f d)) ∧ Below w.heap.size w w' := by
  have H := Lib.hid h
  obtain ⟨hf, h1, h2⟩ := h
  have hp := pow_le (d - 1).toNat (by omega)
  obtain ⟨q, hq⟩ : ∃ q : Int, q = 2 ^ (d - 1).toNat := ⟨_, rfl⟩
  rw [← hq] at hp
  have Hq := Lib.hid hq
  clear hq
  rcases hf with rfl | rfl
  · go_enter Try.func57, Try.ntmps57
    go_wp2_with (first | (go_at_call 81; refine use_b (rMay_ok _ _ _ H.out) ?_; intro w1 hb1; have q0 : w1.cell? ⟨w.heap.size, 0, none⟩ = some (.int .i64 0) := keepc hb1 (by first | assumption | (go_simp; done)); have q1 : w1.cell? ⟨w.heap.size, 1, none⟩ = some (.int .i64 d) := keepc hb1 (by first | assumption | (go_simp; done))) | (go_at_call 82; refine use_b (rPow _ _ (by omega)) ?_; rw [← Hq.out]; intro w2 hb2; have q0 : w2.cell? ⟨w.heap.size, 0, none⟩ = some (.int .i64 0) := keepc hb2 (by first | assumption | (go_simp; done)); have q1 : w2.cell? ⟨w.heap.size, 1, none⟩ = some (.int .i64 d) := keepc hb2 (by first | assumption | (go_simp; done))))
    go_ret
    exact ⟨by first | rfl | (simp [klow, Hq.out]), by repeat (first | exact Below.refl _ _ | apply bl_alloc | apply bl_drew | apply bl_drewN | (refine bl_tr' (by assumption) ?_))⟩
  · go_enter Try.func57, Try.ntmps57
    go_wp2_with (first | (go_at_call 81; refine use_b (rMay_ok _ _ _ H.out) ?_; intro w1 hb1; have q0 : w1.cell? ⟨w.heap.size, 0, none⟩ = some (.int .i64 1) := keepc hb1 (by first | assumption | (go_simp; done)); have q1 : w1.cell? ⟨w.heap.size, 1, none⟩ = some (.int .i64 d) := keepc hb1 (by first | assumption | (go_simp; done))) | (go_at_call 82; refine use_b (rPow _ _ (by omega)) ?_; rw [← Hq.out]; intro w2 hb2; have q0 : w2.cell? ⟨w.heap.size, 0, none⟩ = some (.int .i64 1) := keepc hb2 (by first | assumption | (go_simp; done)); have q1 : w2.cell? ⟨w.heap.size, 1, none⟩ = some (.int .i64 d) := keepc hb2 (by first | assumption | (go_simp; done))))
    go_ret
    exact ⟨by first | rfl | (simp [klow, Hq.out]), by repeat (first | exact Below.refl _ _ | apply bl_alloc | apply bl_drew | apply bl_drewN | (refine bl_tr' (by assumption) ?_))⟩
theorem rHigh_ok (f d : Int) (w : World) (h : KOk f d) :
    Calls Try.prog 56 #[.agg #[.int .i64 f, .int .i64 d]] w fun e w' => e = .returned (.int .i64 (khigh f d)) ∧ Below w.heap.size w w' := by
  have H := Lib.hid h
  obtain ⟨hf, h1, h2⟩ := h
  have hp := pow_le d.toNat (by omega)
  have hp1 := pow_le (d - 1).toNat (by omega)
  have hs := Lib.hid (Int.pow_succ 2 (d - 1).toNat)
  obtain ⟨q, hq⟩ : ∃ q : Int, q = 2 ^ d.toNat := ⟨_, rfl⟩
  obtain ⟨q1, hq1⟩ : ∃ q : Int, q = 2 ^ (d - 1).toNat := ⟨_, rfl⟩
  rw [← hq] at hp
  rw [← hq1] at hp1
  have hq2 := Lib.hid (show q = 2 * q1 by rw [hq, hq1, show d.toNat = (d-1).toNat + 1 by omega, hs.out]; omega)
  have Hq := Lib.hid hq
  have Hq1 := Lib.hid hq1
  clear hq hq1
  rcases hf with rfl | rfl
  · go_enter Try.func56, Try.ntmps56
    go_wp2_with (first | (go_at_call 81; refine use_b (rMay_ok _ _ _ H.out) ?_; intro w1 hb1; have q0 : w1.cell? ⟨w.heap.size, 0, none⟩ = some (.int .i64 0) := keepc hb1 (by first | assumption | (go_simp; done)); have q1 : w1.cell? ⟨w.heap.size, 1, none⟩ = some (.int .i64 d) := keepc hb1 (by first | assumption | (go_simp; done))) | (go_at_call 82; refine use_b (rPow _ _ (by omega)) ?_; (first | rw [← Hq.out] | rw [← Hq1.out]); intro w2 hb2; have q0 : w2.cell? ⟨w.heap.size, 0, none⟩ = some (.int .i64 0) := keepc hb2 (by first | assumption | (go_simp; done)); have q1 : w2.cell? ⟨w.heap.size, 1, none⟩ = some (.int .i64 d) := keepc hb2 (by first | assumption | (go_simp; done))))
    go_ret
    exact ⟨by first | (simp [khigh, klow, Hq.out]; done) | (have := hq2.out; simp only [khigh, klow, ← Hq.out, ← Hq1.out]; simp; omega), by repeat (first | exact Below.refl _ _ | apply bl_alloc | apply bl_drew | apply bl_drewN | (refine bl_tr' (by assumption) ?_))⟩
  · go_enter Try.func56, Try.ntmps56
    go_wp2_with (first | (go_at_call 81; refine use_b (rMay_ok _ _ _ H.out) ?_; intro w1 hb1; have q0 : w1.cell? ⟨w.heap.size, 0, none⟩ = some (.int .i64 1) := keepc hb1 (by first | assumption | (go_simp; done)); have q1 : w1.cell? ⟨w.heap.size, 1, none⟩ = some (.int .i64 d) := keepc hb1 (by first | assumption | (go_simp; done))) | (go_at_call 82; refine use_b (rPow _ _ (by omega)) ?_; (first | rw [← Hq.out] | rw [← Hq1.out]); intro w2 hb2; have q0 : w2.cell? ⟨w.heap.size, 0, none⟩ = some (.int .i64 1) := keepc hb2 (by first | assumption | (go_simp; done)); have q1 : w2.cell? ⟨w.heap.size, 1, none⟩ = some (.int .i64 d) := keepc hb2 (by first | assumption | (go_simp; done))))
    go_ret
    exact ⟨by first | (simp [khigh, klow, Hq.out]; done) | (have := hq2.out; simp only [khigh, klow, ← Hq.out, ← Hq1.out]; simp; omega), by repeat (first | exact Below.refl _ _ | apply bl_alloc | apply bl_drew | apply bl_drewN | (refine bl_tr' (by assumption) ?_))⟩

/-- is a number from Low to High? -/
def KIn (f d x : Int) : Prop := KOk f d ∧ klow f d ≤ x ∧ x ≤ khigh f d
theorem rWithin_yes (f d x : Int) (w : World) (h : KIn f d x) :
    Calls Try.prog 54 #[.agg #[.int .i64 f, .int .i64 d], .int .i64 x] w fun e w' => e = .returned (.bool true) ∧ Below w.heap.size w w' := by
  have H := Lib.hid h.1
  obtain ⟨-, h1, h2⟩ := h
  have e1 : decide (klow f d ≤ x) = true := by simpa using h1
  have e2 : decide (x ≤ khigh f d) = true := by simpa using h2
  go_enter Try.func54, Try.ntmps54
  go_wp2_with (first | (go_at_call 81; refine use_b (rMay_ok _ _ _ H.out) ?_; intro w1 hb1; have q0 : w1.cell? ⟨w.heap.size, 0, none⟩ = some (.int .i64 f) := keepc hb1 (by first | assumption | (go_simp; done)); have q1 : w1.cell? ⟨w.heap.size, 1, none⟩ = some (.int .i64 d) := keepc hb1 (by first | assumption | (go_simp; done))) | (go_at_call 57; refine use_b (rLow_ok _ _ _ H.out) ?_; intro w2 hb2; have q0 : w2.cell? ⟨w.heap.size, 0, none⟩ = some (.int .i64 f) := keepc hb2 (by first | assumption | (go_simp; done)); have q1 : w2.cell? ⟨w.heap.size, 1, none⟩ = some (.int .i64 d) := keepc hb2 (by first | assumption | (go_simp; done))) | (go_at_call 56; refine use_b (rHigh_ok _ _ _ H.out) ?_; intro w3 hb3; have q0 : w3.cell? ⟨w.heap.size, 0, none⟩ = some (.int .i64 f) := keepc hb3 (by first | assumption | (go_simp; done)); have q1 : w3.cell? ⟨w.heap.size, 1, none⟩ = some (.int .i64 d) := keepc hb3 (by first | assumption | (go_simp; done))))
  go_ret
  exact ⟨by first | rfl | (simp; omega), by repeat (first | exact Below.refl _ _ | apply bl_alloc | apply bl_drew | apply bl_drewN | (refine bl_tr' (by assumption) ?_))⟩
theorem rWithin_no (f d x : Int) (w : World) (h : ¬ KIn f d x) :
    Calls Try.prog 54 #[.agg #[.int .i64 f, .int .i64 d], .int .i64 x] w fun e w' => e = .returned (.bool false) ∧ Below w.heap.size w w' := by
  by_cases hk : KOk f d
  · have H := Lib.hid hk
    have h0 : x < klow f d ∨ (klow f d ≤ x ∧ khigh f d < x) := by
      unfold KIn at h
      by_cases h1 : x < klow f d
      · exact Or.inl h1
      · right; refine ⟨by omega, ?_⟩; refine Int.not_le.mp fun h2 => h ⟨hk, by omega, h2⟩
    clear h hk
    rcases h0 with h1 | ⟨h0, h1⟩
    all_goals
      go_enter Try.func54, Try.ntmps54
      go_wp2_with (first | (go_at_call 81; refine use_b (rMay_ok _ _ _ H.out) ?_; intro w1 hb1; have q0 : w1.cell? ⟨w.heap.size, 0, none⟩ = some (.int .i64 f) := keepc hb1 (by first | assumption | (go_simp; done)); have q1 : w1.cell? ⟨w.heap.size, 1, none⟩ = some (.int .i64 d) := keepc hb1 (by first | assumption | (go_simp; done))) | (go_at_call 57; refine use_b (rLow_ok _ _ _ H.out) ?_; intro w2 hb2; have q0 : w2.cell? ⟨w.heap.size, 0, none⟩ = some (.int .i64 f) := keepc hb2 (by first | assumption | (go_simp; done)); have q1 : w2.cell? ⟨w.heap.size, 1, none⟩ = some (.int .i64 d) := keepc hb2 (by first | assumption | (go_simp; done))) | (go_at_call 56; refine use_b (rHigh_ok _ _ _ H.out) ?_; intro w3 hb3; have q0 : w3.cell? ⟨w.heap.size, 0, none⟩ = some (.int .i64 f) := keepc hb3 (by first | assumption | (go_simp; done)); have q1 : w3.cell? ⟨w.heap.size, 1, none⟩ = some (.int .i64 d) := keepc hb3 (by first | assumption | (go_simp; done))))
      go_ret
      exact ⟨by first | rfl | (simp; omega), by repeat (first | exact Below.refl _ _ | apply bl_alloc | apply bl_drew | apply bl_drewN | (refine bl_tr' (by assumption) ?_))⟩
  · have H := Lib.hid hk
    clear h hk
    go_enter Try.func54, Try.ntmps54
    go_wp2_with (go_at_call 81; refine use_b (rMay_no _ _ _ H.out) ?_; intro w1 hb1; have q0 : w1.cell? ⟨w.heap.size, 0, none⟩ = some (.int .i64 f) := keepc hb1 (by first | assumption | (go_simp; done)); have q1 : w1.cell? ⟨w.heap.size, 1, none⟩ = some (.int .i64 d) := keepc hb1 (by first | assumption | (go_simp; done)))
    go_ret
    exact ⟨by first | rfl | (simp; omega), by repeat (first | exact Below.refl _ _ | apply bl_alloc | apply bl_drew | apply bl_drewN | (refine bl_tr' (by assumption) ?_))⟩
end Go.Proofs.Ytehcimecmbcdfaa
