/- Contracts of the codec's Fold and Unfold and of the reference's. -/
import Derived.Test.YtehcimecmbcdfaaXKind
import Derived.Test.YtehcimecmbcdfaaXBits
set_option linter.unusedSimpArgs false
set_option linter.unusedVariables false
namespace Go.Proofs.Ytehcimecmbcdfaa
open Go.RowKit

/-- the residue -/
def foldD (d x : Int) : Int := (x + 2 ^ (d - 1).toNat) % 2 ^ d.toNat - 2 ^ (d - 1).toNat
/-- its symbol -/
def symOf (r : Int) : Int := if r < 0 then -2 * r - 1 else 2 * r
/-- the residue of a symbol -/
def unSym (s : Int) : Int := if s % 2 = 0 then s / 2 else -(s / 2) - 1
/-- the sample of a symbol -/
def unfoldS (f d g s : Int) : Int := klow f d + (g - klow f d + unSym s) % 2 ^ d.toNat

theorem kbounds {f d : Int} (h : KOk f d) : -32768 ≤ klow f d ∧ klow f d ≤ 0 ∧ 0 ≤ khigh f d ∧ khigh f d ≤ 65535 ∧ khigh f d - klow f d = 2 ^ d.toNat - 1 ∧ 2 ^ d.toNat ≤ (65536 : Int) ∧ (2 : Int) ≤ 2 ^ d.toNat ∧ (2 : Int) ^ d.toNat = 2 * 2 ^ (d - 1).toNat := by
  have h1 := (KOk.cases h).2
  rcases (KOk.cases h).1 with h0 | h0 <;> subst h0 <;> rcases h1 with (rfl | rfl | rfl | rfl | rfl | rfl | rfl | rfl | rfl | rfl | rfl | rfl | rfl | rfl | rfl | rfl) <;> decide +kernel
theorem foldD_wrap {d x : Int} (h1 : 1 ≤ d) (h2 : d ≤ 16) (hx : -200000 ≤ x ∧ x ≤ 200000) : wrap64 (wrap32 (x * 2 ^ (32 - d).toNat) / 2 ^ (32 - d).toNat) = foldD d x := by
  have h : d = 1 ∨ d = 2 ∨ d = 3 ∨ d = 4 ∨ d = 5 ∨ d = 6 ∨ d = 7 ∨ d = 8 ∨ d = 9 ∨ d = 10 ∨ d = 11 ∨ d = 12 ∨ d = 13 ∨ d = 14 ∨ d = 15 ∨ d = 16 := by omega
  rcases h with (rfl | rfl | rfl | rfl | rfl | rfl | rfl | rfl | rfl | rfl | rfl | rfl | rfl | rfl | rfl | rfl) <;> simp [wrap64, wrap32, foldD] <;> omega
theorem foldD_range {d x : Int} (h1 : 1 ≤ d) (h2 : d ≤ 16) : -32768 ≤ foldD d x ∧ foldD d x ≤ 32767 := by
  have h : d = 1 ∨ d = 2 ∨ d = 3 ∨ d = 4 ∨ d = 5 ∨ d = 6 ∨ d = 7 ∨ d = 8 ∨ d = 9 ∨ d = 10 ∨ d = 11 ∨ d = 12 ∨ d = 13 ∨ d = 14 ∨ d = 15 ∨ d = 16 := by omega
  rcases h with (rfl | rfl | rfl | rfl | rfl | rfl | rfl | rfl | rfl | rfl | rfl | rfl | rfl | rfl | rfl | rfl) <;> simp [foldD] <;> omega
theorem symOf_xor {r : Int} (h : -32768 ≤ r ∧ r ≤ 32767) : bits .xor .i64 (r * 2) (r / 2147483648) = symOf r := by
  unfold symOf
  by_cases h0 : r < 0
  · rw [show r / 2147483648 = -1 by omega, xorm_i64 _ (by omega), if_pos h0]; omega
  · rw [show r / 2147483648 = 0 by omega, xor0_i64 _ (by omega), if_neg h0]; omega
theorem unSym_xor {s : Int} (h0 : 0 ≤ s) (h1 : s ≤ 131072) : bits .xor .i64 (s / 2) (wrap64 (-(bits .and .i64 s 1))) = unSym s := by
  have e := andmask_i64 s 1 (by decide)
  rw [show ((2:Int)^1 - 1) = 1 by decide, show ((2:Int)^1) = 2 by decide] at e
  rw [e]
  unfold unSym
  by_cases h : s % 2 = 0
  · rw [if_pos h, h, show wrap64 (-0) = 0 by decide +kernel, xor0_i64 _ (by omega)]
  · rw [show s % 2 = 1 by omega, show wrap64 (-1) = -1 by decide +kernel, xorm_i64 _ (by omega), if_neg (by omega)]

theorem cWrap (f d x : Int) (w : World) (h1 : 1 ≤ d) (h2 : d ≤ 16) (hx : -200000 ≤ x ∧ x ≤ 200000) :
    Calls Try.prog 53 #[.agg #[.int .i64 f, .int .i64 d], .int .i64 x] w fun e w' => e = .returned (.int .i64 (foldD d x)) ∧ Below w.heap.size w w' := by
  have hf := Lib.hid (foldD_wrap h1 h2 hx)
  obtain ⟨hx1, hx2⟩ := hx
  go_enter Try.func53, Try.ntmps53
  go_wp2
  go_ret
  exact ⟨by rw [← hf.out]; rfl, by repeat (first | exact Below.refl _ _ | apply bl_alloc | apply bl_drew | apply bl_drewN | (refine bl_tr' (by assumption) ?_))⟩
theorem cFold_yes (f d x g : Int) (w : World) (h1 : KIn f d x) (h2 : KIn f d g) :
    Calls Try.prog 16 #[.agg #[.int .i64 f, .int .i64 d], .int .i64 x, .int .i64 g] w fun e w' => e = .returned (.tuple #[.int .i64 (foldD d (x - g)), .int .i64 (symOf (foldD d (x - g))), .int .i64 0]) ∧ Below w.heap.size w w' := by
  have H := Lib.hid h1.1
  obtain ⟨b1, b2, b3, b4, -⟩ := kbounds h1.1
  obtain ⟨⟨-, hd1, hd2⟩, hx1, hx2⟩ := h1
  obtain ⟨-, hg1, hg2⟩ := h2
  obtain ⟨r1, r2⟩ := foldD_range (x := x - g) hd1 hd2
  have hs := Lib.hid (symOf_xor ⟨r1, r2⟩)
  have t1 : decide (x < klow f d) = false := by simp; omega
  have t2 : decide (khigh f d < x) = false := by simp; omega
  have t3 : decide (g < klow f d) = false := by simp; omega
  have t4 : decide (khigh f d < g) = false := by simp; omega
  go_enter Try.func16, Try.ntmps16
  go_wp2
  go_region_held3 (fun w' => w'.cell? ⟨w.heap.size, 0, none⟩ = some (.int .i64 f) ∧ w'.cell? ⟨w.heap.size, 1, none⟩ = some (.int .i64 d)) (first | go_keep | (go_split_ands; exact ⟨keepc hb1 (by assumption), keepc hb1 (by assumption)⟩) | (go_split_ands; exact ⟨keepc hb2 (by assumption), keepc hb2 (by assumption)⟩)) (first | (go_at_call 51; refine use_b (kLow_ok _ _ _ H.out) ?_; intro w1 hb1) | (go_at_call 52; refine use_b (kHigh_ok _ _ _ H.out) ?_; intro w2 hb2))
  obtain ⟨q0, q1⟩ : w2.cell? ⟨w.heap.size, 0, none⟩ = some (.int .i64 f) ∧ w2.cell? ⟨w.heap.size, 1, none⟩ = some (.int .i64 d) := by assumption
  go_wp2_with (first | (go_at_call 21; refine use_b (kCheck_ok _ _ _ H.out) ?_; intro w3 hb3; have q0 : w3.cell? ⟨w.heap.size, 0, none⟩ = some (.int .i64 f) := keepc hb3 (by first | assumption | (go_simp; done)); have q1 : w3.cell? ⟨w.heap.size, 1, none⟩ = some (.int .i64 d) := keepc hb3 (by first | assumption | (go_simp; done))) | (go_at_call 53; refine use_b (cWrap _ _ _ _ hd1 hd2 (by omega)) ?_; intro w4 hb4))
  go_ret3
  exact ⟨by rw [← hs.out]; rfl, by repeat (first | exact Below.refl _ _ | apply bl_alloc | apply bl_drew | apply bl_drewN | (refine bl_tr' (by assumption) ?_))⟩
theorem cFold_no (f d x g : Int) (w : World) (h : ¬ (KIn f d x ∧ KIn f d g)) :
    Calls Try.prog 16 #[.agg #[.int .i64 f, .int .i64 d], .int .i64 x, .int .i64 g] w fun e w' => e = .returned (.tuple #[.int .i64 0, .int .i64 0, .int .i64 1]) ∧ Below w.heap.size w w' := by
  by_cases hk : KOk f d
  · have H := Lib.hid hk
    have h0 : (x < klow f d ∨ khigh f d < x) ∨ (g < klow f d ∨ khigh f d < g) := by
      unfold KIn at h
      refine Classical.byContradiction fun hn => h ⟨⟨hk, by omega, by omega⟩, ⟨hk, by omega, by omega⟩⟩
    have h9 : ¬ (((klow f d ≤ x ∧ x ≤ khigh f d) ∧ klow f d ≤ g) ∧ g ≤ khigh f d) := by omega
    clear h hk
    have H9 := Lib.hid h9
    have H0 := Lib.hid h0
    clear h9 h0
    go_enter Try.func16, Try.ntmps16
    go_wp2
    go_region_held3 (fun w' => w'.cell? ⟨w.heap.size, 0, none⟩ = some (.int .i64 f) ∧ w'.cell? ⟨w.heap.size, 1, none⟩ = some (.int .i64 d)) (first | go_keep | (go_split_ands; exact ⟨keepc hb1 (by assumption), keepc hb1 (by assumption)⟩) | (go_split_ands; exact ⟨keepc hb2 (by assumption), keepc hb2 (by assumption)⟩)) (first | (go_at_call 51; refine use_b (kLow_ok _ _ _ H.out) ?_; intro w1 hb1) | (go_at_call 52; refine use_b (kHigh_ok _ _ _ H.out) ?_; intro w2 hb2))
    obtain ⟨q0, q1⟩ : w2.cell? ⟨w.heap.size, 0, none⟩ = some (.int .i64 f) ∧ w2.cell? ⟨w.heap.size, 1, none⟩ = some (.int .i64 d) := by assumption
    go_wp2_with (first | (go_at_call 21; refine use_b (kCheck_ok _ _ _ H.out) ?_; intro w3 hb3; have q0 : w3.cell? ⟨w.heap.size, 0, none⟩ = some (.int .i64 f) := keepc hb3 (by first | assumption | (go_simp; done)); have q1 : w3.cell? ⟨w.heap.size, 1, none⟩ = some (.int .i64 d) := keepc hb3 (by first | assumption | (go_simp; done))))
    all_goals first
      | (go_ret3; exact ⟨rfl, by repeat (first | exact Below.refl _ _ | apply bl_alloc | apply bl_drew | apply bl_drewN | (refine bl_tr' (by assumption) ?_))⟩)
      | (exfalso; have := H0.out; omega)
  · have H := Lib.hid hk
    clear h hk
    go_enter Try.func16, Try.ntmps16
    go_wp2
    go_region_held3 (fun w' => w'.cell? ⟨w.heap.size, 0, none⟩ = some (.int .i64 f) ∧ w'.cell? ⟨w.heap.size, 1, none⟩ = some (.int .i64 d)) (first | go_keep | (go_split_ands; exact ⟨keepc hb1 (by assumption), keepc hb1 (by assumption)⟩) | (go_split_ands; exact ⟨keepc hb2 (by assumption), keepc hb2 (by assumption)⟩)) (first | (go_at_call 51; refine use_b (kLow_no _ _ _ H.out) ?_; intro w1 hb1) | (go_at_call 52; refine use_b (kHigh_no _ _ _ H.out) ?_; intro w2 hb2))
    obtain ⟨q0, q1⟩ : w2.cell? ⟨w.heap.size, 0, none⟩ = some (.int .i64 f) ∧ w2.cell? ⟨w.heap.size, 1, none⟩ = some (.int .i64 d) := by assumption
    go_wp2_with (first | (go_at_call 21; refine use_b (kCheck_no _ _ _ H.out) ?_; intro w3 hb3; have q0 : w3.cell? ⟨w.heap.size, 0, none⟩ = some (.int .i64 f) := keepc hb3 (by first | assumption | (go_simp; done)); have q1 : w3.cell? ⟨w.heap.size, 1, none⟩ = some (.int .i64 d) := keepc hb3 (by first | assumption | (go_simp; done))))
    go_ret3
    exact ⟨rfl, by repeat (first | exact Below.refl _ _ | apply bl_alloc | apply bl_drew | apply bl_drewN | (refine bl_tr' (by assumption) ?_))⟩

theorem unfold_and {f d g s : Int} (h : KIn f d g) (h2 : 0 ≤ s) (h3 : s < 2 ^ d.toNat) : wrap64 (klow f d + bits .and .i64 (wrap64 (g - klow f d + bits .xor .i64 (s / 2) (wrap64 (-(bits .and .i64 s 1))))) (wrap64 (wrap64 (2 ^ d.toNat) - 1))) = unfoldS f d g s := by
  obtain ⟨b1, b2, b3, b4, b5, b6, b7, -⟩ := kbounds h.1
  obtain ⟨⟨-, hd1, hd2⟩, hx1, hx2⟩ := h
  rw [unSym_xor h2 (by omega)]
  have hu : -65536 ≤ unSym s ∧ unSym s ≤ 65536 := by unfold unSym; split <;> omega
  rw [show wrap64 (wrap64 (2 ^ d.toNat) - 1) = 2 ^ d.toNat - 1 by unfold wrap64; omega]
  rw [show wrap64 (g - klow f d + unSym s) = g - klow f d + unSym s by unfold wrap64; omega]
  rw [andmask_i64 _ _ (by omega)]
  have h1 := Int.emod_nonneg (g - klow f d + unSym s) (b := (2:Int) ^ d.toNat) (by omega)
  have h2 := Int.emod_lt_of_pos (g - klow f d + unSym s) (b := (2:Int) ^ d.toNat) (by omega)
  unfold unfoldS wrap64
  omega
theorem cUnfold_yes (f d g s : Int) (w : World) (h1 : KIn f d g) (h2 : 0 ≤ s) (h3 : s < 2 ^ d.toNat) :
    Calls Try.prog 18 #[.agg #[.int .i64 f, .int .i64 d], .int .i64 g, .int .i64 s] w fun e w' => e = .returned (.tuple #[.int .i64 (unfoldS f d g s), .int .i64 0]) ∧ Below w.heap.size w w' := by
  have H := Lib.hid h1.1
  have hs := Lib.hid (unfold_and h1 h2 h3)
  have hz : s / 2 ^ d.toNat = 0 := Int.ediv_eq_zero_of_lt h2 h3
  have hz' : (s / 2 ^ d.toNat != 0) = false := by rw [hz]; rfl
  clear hz
  obtain ⟨b1, b2, b3, b4, -⟩ := kbounds h1.1
  obtain ⟨⟨-, hd1, hd2⟩, hx1, hx2⟩ := h1
  have t1 : decide (g < klow f d) = false := by simp; omega
  have t2 : decide (khigh f d < g) = false := by simp; omega
  have t3 : decide (s < 0) = false := by simp; omega
  go_enter Try.func18, Try.ntmps18
  go_wp2
  go_region_held3 (fun w' => w'.cell? ⟨w.heap.size, 0, none⟩ = some (.int .i64 f) ∧ w'.cell? ⟨w.heap.size, 1, none⟩ = some (.int .i64 d)) (first | go_keep | (go_split_ands; exact ⟨keepc hb1 (by assumption), keepc hb1 (by assumption)⟩) | (go_split_ands; exact ⟨keepc hb2 (by assumption), keepc hb2 (by assumption)⟩)) (first | (go_at_call 51; refine use_b (kLow_ok _ _ _ H.out) ?_; intro w1 hb1) | (go_at_call 52; refine use_b (kHigh_ok _ _ _ H.out) ?_; intro w2 hb2))
  obtain ⟨q0, q1⟩ : w2.cell? ⟨w.heap.size, 0, none⟩ = some (.int .i64 f) ∧ w2.cell? ⟨w.heap.size, 1, none⟩ = some (.int .i64 d) := by assumption
  go_wp2_with (first | (go_at_call 21; refine use_b (kCheck_ok _ _ _ H.out) ?_; intro w3 hb3; have q0 : w3.cell? ⟨w.heap.size, 0, none⟩ = some (.int .i64 f) := keepc hb3 (by first | assumption | (go_simp; done)); have q1 : w3.cell? ⟨w.heap.size, 1, none⟩ = some (.int .i64 d) := keepc hb3 (by first | assumption | (go_simp; done))))
  go_ret2
  exact ⟨by rw [← hs.out]; rfl, by repeat (first | exact Below.refl _ _ | apply bl_alloc | apply bl_drew | apply bl_drewN | (refine bl_tr' (by assumption) ?_))⟩
theorem cUnfold_no (f d g s : Int) (w : World) (h : ¬ (KIn f d g ∧ 0 ≤ s ∧ s < 2 ^ d.toNat)) :
    Calls Try.prog 18 #[.agg #[.int .i64 f, .int .i64 d], .int .i64 g, .int .i64 s] w fun e w' => e = .returned (.tuple #[.int .i64 0, .int .i64 1]) ∧ Below w.heap.size w w' := by
  by_cases hk : KOk f d
  · have H := Lib.hid hk
    have hd1 := hk.2.1
    have hd2 := hk.2.2
    obtain ⟨b1, b2, b3, b4, b5, b6, b7, -⟩ := kbounds hk
    have h0 : (g < klow f d ∨ khigh f d < g) ∨ s < 0 ∨ (0 ≤ s ∧ (s / 2 ^ d.toNat != 0) = true) := by
      by_cases h3 : s < 2 ^ d.toNat
      · unfold KIn at h
        by_cases h4 : s < 0
        · exact .inr (.inl h4)
        · left; refine Classical.byContradiction fun hn => h ⟨⟨hk, by omega, by omega⟩, by omega, h3⟩
      · right; right
        refine ⟨by omega, ?_⟩
        have := Int.le_ediv_of_mul_le (c := (2:Int) ^ d.toNat) (a := 1) (b := s) (by omega) (by omega)
        simp only [bne_iff_ne]
        omega
    clear h hk b5 b6 b7
    have h9 : ((g < klow f d ∨ khigh f d < g) ∨ s < 0) ∨ (((klow f d ≤ g ∧ g ≤ khigh f d) ∧ 0 ≤ s) ∧ (s / 2 ^ d.toNat != 0) = true) := by
      rcases h0 with h0 | h0 | h0
      · exact .inl (.inl h0)
      · exact .inl (.inr h0)
      · by_cases h1 : g < klow f d ∨ khigh f d < g
        · exact .inl (.inl h1)
        · exact .inr ⟨⟨⟨by omega, by omega⟩, h0.1⟩, h0.2⟩
    clear h0
    rcases h9 with h9 | ⟨h9, hz⟩
    · have H0 := Lib.hid h9
      clear h9
      go_enter Try.func18, Try.ntmps18
      go_wp2
      go_region_held3 (fun w' => w'.cell? ⟨w.heap.size, 0, none⟩ = some (.int .i64 f) ∧ w'.cell? ⟨w.heap.size, 1, none⟩ = some (.int .i64 d)) (first | go_keep | (go_split_ands; exact ⟨keepc hb1 (by assumption), keepc hb1 (by assumption)⟩) | (go_split_ands; exact ⟨keepc hb2 (by assumption), keepc hb2 (by assumption)⟩)) (first | (go_at_call 51; refine use_b (kLow_ok _ _ _ H.out) ?_; intro w1 hb1) | (go_at_call 52; refine use_b (kHigh_ok _ _ _ H.out) ?_; intro w2 hb2))
      obtain ⟨q0, q1⟩ : w2.cell? ⟨w.heap.size, 0, none⟩ = some (.int .i64 f) ∧ w2.cell? ⟨w.heap.size, 1, none⟩ = some (.int .i64 d) := by assumption
      go_wp2_with (first | (go_at_call 21; refine use_b (kCheck_ok _ _ _ H.out) ?_; intro w3 hb3; have q0 : w3.cell? ⟨w.heap.size, 0, none⟩ = some (.int .i64 f) := keepc hb3 (by first | assumption | (go_simp; done)); have q1 : w3.cell? ⟨w.heap.size, 1, none⟩ = some (.int .i64 d) := keepc hb3 (by first | assumption | (go_simp; done))))
      all_goals first
        | (go_ret2; exact ⟨rfl, by repeat (first | exact Below.refl _ _ | apply bl_alloc | apply bl_drew | apply bl_drewN | (refine bl_tr' (by assumption) ?_))⟩)
        | (exfalso; have := H0.out; omega)
    · have t1 : decide (g < klow f d) = false := by simp; omega
      have t2 : decide (khigh f d < g) = false := by simp; omega
      have t3 : decide (s < 0) = false := by simp; omega
      clear h9
      go_enter Try.func18, Try.ntmps18
      go_wp2
      go_region_held3 (fun w' => w'.cell? ⟨w.heap.size, 0, none⟩ = some (.int .i64 f) ∧ w'.cell? ⟨w.heap.size, 1, none⟩ = some (.int .i64 d)) (first | go_keep | (go_split_ands; exact ⟨keepc hb1 (by assumption), keepc hb1 (by assumption)⟩) | (go_split_ands; exact ⟨keepc hb2 (by assumption), keepc hb2 (by assumption)⟩)) (first | (go_at_call 51; refine use_b (kLow_ok _ _ _ H.out) ?_; intro w1 hb1) | (go_at_call 52; refine use_b (kHigh_ok _ _ _ H.out) ?_; intro w2 hb2))
      obtain ⟨q0, q1⟩ : w2.cell? ⟨w.heap.size, 0, none⟩ = some (.int .i64 f) ∧ w2.cell? ⟨w.heap.size, 1, none⟩ = some (.int .i64 d) := by assumption
      go_wp2_with (first | (go_at_call 21; refine use_b (kCheck_ok _ _ _ H.out) ?_; intro w3 hb3; have q0 : w3.cell? ⟨w.heap.size, 0, none⟩ = some (.int .i64 f) := keepc hb3 (by first | assumption | (go_simp; done)); have q1 : w3.cell? ⟨w.heap.size, 1, none⟩ = some (.int .i64 d) := keepc hb3 (by first | assumption | (go_simp; done))))
      go_ret2
      exact ⟨rfl, by repeat (first | exact Below.refl _ _ | apply bl_alloc | apply bl_drew | apply bl_drewN | (refine bl_tr' (by assumption) ?_))⟩
  · have H := Lib.hid hk
    clear h hk
    go_enter Try.func18, Try.ntmps18
    go_wp2
    go_region_held3 (fun w' => w'.cell? ⟨w.heap.size, 0, none⟩ = some (.int .i64 f) ∧ w'.cell? ⟨w.heap.size, 1, none⟩ = some (.int .i64 d)) (first | go_keep | (go_split_ands; exact ⟨keepc hb1 (by assumption), keepc hb1 (by assumption)⟩) | (go_split_ands; exact ⟨keepc hb2 (by assumption), keepc hb2 (by assumption)⟩)) (first | (go_at_call 51; refine use_b (kLow_no _ _ _ H.out) ?_; intro w1 hb1) | (go_at_call 52; refine use_b (kHigh_no _ _ _ H.out) ?_; intro w2 hb2))
    obtain ⟨q0, q1⟩ : w2.cell? ⟨w.heap.size, 0, none⟩ = some (.int .i64 f) ∧ w2.cell? ⟨w.heap.size, 1, none⟩ = some (.int .i64 d) := by assumption
    go_wp2_with (first | (go_at_call 21; refine use_b (kCheck_no _ _ _ H.out) ?_; intro w3 hb3; have q0 : w3.cell? ⟨w.heap.size, 0, none⟩ = some (.int .i64 f) := keepc hb3 (by first | assumption | (go_simp; done)); have q1 : w3.cell? ⟨w.heap.size, 1, none⟩ = some (.int .i64 d) := keepc hb3 (by first | assumption | (go_simp; done))))
    go_ret2
    exact ⟨rfl, by repeat (first | exact Below.refl _ _ | apply bl_alloc | apply bl_drew | apply bl_drewN | (refine bl_tr' (by assumption) ?_))⟩

theorem foldD_cases {d x : Int} (h1 : 1 ≤ d) (h2 : d ≤ 16) (hx : -2 ^ d.toNat < x ∧ x < 2 ^ d.toNat) :
    foldD d x = if 2 ^ (d - 1).toNat ≤ x then x - 2 ^ d.toNat else if x < - 2 ^ (d - 1).toNat then x + 2 ^ d.toNat else x := by
  have h : d = 1 ∨ d = 2 ∨ d = 3 ∨ d = 4 ∨ d = 5 ∨ d = 6 ∨ d = 7 ∨ d = 8 ∨ d = 9 ∨ d = 10 ∨ d = 11 ∨ d = 12 ∨ d = 13 ∨ d = 14 ∨ d = 15 ∨ d = 16 := by omega
  rcases h with (rfl | rfl | rfl | rfl | rfl | rfl | rfl | rfl | rfl | rfl | rfl | rfl | rfl | rfl | rfl | rfl) <;> simp [foldD] at hx ⊢ <;> omega
theorem unfoldS_cases {f d g s : Int} (h : KIn f d g) (h2 : 0 ≤ s) (h3 : s < 2 ^ d.toNat) :
    unfoldS f d g s = if khigh f d < g + unSym s then g + unSym s - 2 ^ d.toNat else if g + unSym s < klow f d then g + unSym s + 2 ^ d.toNat else g + unSym s := by
  obtain ⟨hk, hx1, hx2⟩ := h
  have h1 := (KOk.cases hk).2
  unfold unfoldS unSym
  rcases (KOk.cases hk).1 with h0 | h0 <;> subst h0 <;> rcases h1 with (rfl | rfl | rfl | rfl | rfl | rfl | rfl | rfl | rfl | rfl | rfl | rfl | rfl | rfl | rfl | rfl) <;> simp [klow, khigh] at hx1 hx2 h3 ⊢ <;> omega

theorem rFold_yes (f d x g : Int) (w : World) (h1 : KIn f d x) (h2 : KIn f d g) :
    Calls Try.prog 17 #[.agg #[.int .i64 f, .int .i64 d], .int .i64 x, .int .i64 g] w fun e w' => e = .returned (.tuple #[.int .i64 (foldD d (x - g)), .int .i64 (symOf (foldD d (x - g))), .int .i64 0]) ∧ Below w.heap.size w w' := by
  have H1 := Lib.hid h1
  have H2 := Lib.hid h2
  obtain ⟨b1, b2, b3, b4, b5, b6, b7, b8⟩ := kbounds h1.1
  obtain ⟨⟨-, hd1, hd2⟩, hx1, hx2⟩ := h1
  obtain ⟨-, hg1, hg2⟩ := h2
  have hc := Lib.hid (foldD_cases (x := x - g) hd1 hd2 (by omega))
  obtain ⟨q, hq⟩ : ∃ q : Int, q = 2 ^ (d - 1).toNat := ⟨_, rfl⟩
  rw [← hq] at b8
  rw [b8] at b5 b6 b7
  have H8 := Lib.hid b8
  have Hq := Lib.hid hq
  have b9 : x - g < 2 * q := by omega
  have b10 : -(2 * q) < x - g := by omega
  clear b8 hq b5
  go_enter Try.func17, Try.ntmps17
  go_wp2_with fail
  refine use_b (rWithin_yes _ _ x _ H1.out) ?_
  intro w1 hb1; have q0 : w1.cell? ⟨w.heap.size, 0, none⟩ = some (.int .i64 f) := keepc hb1 (by first | assumption | (go_simp; done)); have q1 : w1.cell? ⟨w.heap.size, 1, none⟩ = some (.int .i64 d) := keepc hb1 (by first | assumption | (go_simp; done))
  go_wp2_with fail
  refine use_b (rWithin_yes _ _ g _ H2.out) ?_
  intro w2 hb2; have q0 : w2.cell? ⟨w.heap.size, 0, none⟩ = some (.int .i64 f) := keepc hb2 (by first | assumption | (go_simp; done)); have q1 : w2.cell? ⟨w.heap.size, 1, none⟩ = some (.int .i64 d) := keepc hb2 (by first | assumption | (go_simp; done))
  go_wp2_with (go_at_call 55; refine use_b (rPower _ _ (by omega)) ?_; rw [H8.out]; intro w3 hb3; have q0 : w3.cell? ⟨w.heap.size, 0, none⟩ = some (.int .i64 f) := keepc hb3 (by first | assumption | (go_simp; done)); have q1 : w3.cell? ⟨w.heap.size, 1, none⟩ = some (.int .i64 d) := keepc hb3 (by first | assumption | (go_simp; done)))
  all_goals
    go_ret3
    have e := hc.out
    rw [← Hq.out, H8.out] at e
    refine ⟨ret_t3 (?_ : _ = foldD d (x - g)) (?_ : _ = symOf (foldD d (x - g))) rfl, by repeat (first | exact Below.refl _ _ | apply bl_alloc | apply bl_drew | apply bl_drewN | (refine bl_tr' (by assumption) ?_))⟩
    · rw [e]; split <;> (try split) <;> omega
    · rw [e]; unfold symOf; split <;> (try split) <;> (try split) <;> omega
theorem rFold_no (f d x g : Int) (w : World) (h : ¬ (KIn f d x ∧ KIn f d g)) :
    Calls Try.prog 17 #[.agg #[.int .i64 f, .int .i64 d], .int .i64 x, .int .i64 g] w fun e w' => e = .returned (.tuple #[.int .i64 0, .int .i64 0, .int .i64 1]) ∧ Below w.heap.size w w' := by
  by_cases h1 : KIn f d x
  · have h2 : ¬ KIn f d g := fun h2 => h ⟨h1, h2⟩
    have H1 := Lib.hid h1
    have H2 := Lib.hid h2
    clear h h1 h2
    go_enter Try.func17, Try.ntmps17
    go_wp2_with fail
    refine use_b (rWithin_yes _ _ x _ H1.out) ?_
    intro w1 hb1; have q0 : w1.cell? ⟨w.heap.size, 0, none⟩ = some (.int .i64 f) := keepc hb1 (by first | assumption | (go_simp; done)); have q1 : w1.cell? ⟨w.heap.size, 1, none⟩ = some (.int .i64 d) := keepc hb1 (by first | assumption | (go_simp; done))
    go_wp2_with fail
    refine use_b (rWithin_no _ _ g _ H2.out) ?_
    intro w2 hb2; have q0 : w2.cell? ⟨w.heap.size, 0, none⟩ = some (.int .i64 f) := keepc hb2 (by first | assumption | (go_simp; done)); have q1 : w2.cell? ⟨w.heap.size, 1, none⟩ = some (.int .i64 d) := keepc hb2 (by first | assumption | (go_simp; done))
    go_wp2_with fail
    go_ret3
    exact ⟨rfl, by repeat (first | exact Below.refl _ _ | apply bl_alloc | apply bl_drew | apply bl_drewN | (refine bl_tr' (by assumption) ?_))⟩
  · have H1 := Lib.hid h1
    clear h h1
    go_enter Try.func17, Try.ntmps17
    go_wp2_with fail
    refine use_b (rWithin_no _ _ x _ H1.out) ?_
    intro w1 hb1; have q0 : w1.cell? ⟨w.heap.size, 0, none⟩ = some (.int .i64 f) := keepc hb1 (by first | assumption | (go_simp; done)); have q1 : w1.cell? ⟨w.heap.size, 1, none⟩ = some (.int .i64 d) := keepc hb1 (by first | assumption | (go_simp; done))
    go_wp2_with fail
    go_ret3
    exact ⟨rfl, by repeat (first | exact Below.refl _ _ | apply bl_alloc | apply bl_drew | apply bl_drewN | (refine bl_tr' (by assumption) ?_))⟩
theorem rUnfold_yes (f d g s : Int) (w : World) (h1 : KIn f d g) (h2 : 0 ≤ s) (h3 : s < 2 ^ d.toNat) :
    Calls Try.prog 19 #[.agg #[.int .i64 f, .int .i64 d], .int .i64 g, .int .i64 s] w fun e w' => e = .returned (.tuple #[.int .i64 (unfoldS f d g s), .int .i64 0]) ∧ Below w.heap.size w w' := by
  have H := Lib.hid h1.1
  have H1 := Lib.hid h1
  have hc := Lib.hid (unfoldS_cases h1 h2 h3)
  obtain ⟨b1, b2, b3, b4, b5, b6, b7, b8⟩ := kbounds h1.1
  obtain ⟨⟨-, hd1, hd2⟩, hx1, hx2⟩ := h1
  obtain ⟨p, hp⟩ : ∃ p : Int, p = 2 ^ d.toNat := ⟨_, rfl⟩
  rw [← hp] at b5 b6 b7 h3
  have Hp := Lib.hid hp
  have b9 : khigh f d - klow f d ≤ p - 1 := by omega
  have b10 : p - 1 ≤ khigh f d - klow f d := by omega
  clear hp b5 b8
  have hpar : (∃ m, s = 2 * m) ∨ (∃ m, s = 2 * m + 1) := by
    by_cases h : s % 2 = 0
    · exact .inl ⟨s / 2, by omega⟩
    · exact .inr ⟨s / 2, by omega⟩
  rcases hpar with ⟨m, rfl⟩ | ⟨m, rfl⟩
  · have u1 : 2 * m / 2 = m := by omega
    have u2 : ((2 * m) % 2 == 1) = false := by simp
    have hu := Lib.hid (show unSym (2 * m) = m by unfold unSym; rw [if_pos (by omega)]; omega)
    go_enter Try.func19, Try.ntmps19
    go_wp2_with (first | (go_at_call 54; refine use_b (rWithin_yes _ _ g _ H1.out) ?_; intro w1 hb1; have q0 : w1.cell? ⟨w.heap.size, 0, none⟩ = some (.int .i64 f) := keepc hb1 (by first | assumption | (go_simp; done)); have q1 : w1.cell? ⟨w.heap.size, 1, none⟩ = some (.int .i64 d) := keepc hb1 (by first | assumption | (go_simp; done))) | (go_at_call 55; refine use_b (rPower _ _ (by omega)) ?_; rw [← Hp.out]; intro w3 hb3; have q0 : w3.cell? ⟨w.heap.size, 0, none⟩ = some (.int .i64 f) := keepc hb3 (by first | assumption | (go_simp; done)); have q1 : w3.cell? ⟨w.heap.size, 1, none⟩ = some (.int .i64 d) := keepc hb3 (by first | assumption | (go_simp; done))) | (go_at_call 57; refine use_b (rLow_ok _ _ _ H.out) ?_; intro w4 hb4; have q0 : w4.cell? ⟨w.heap.size, 0, none⟩ = some (.int .i64 f) := keepc hb4 (by first | assumption | (go_simp; done)); have q1 : w4.cell? ⟨w.heap.size, 1, none⟩ = some (.int .i64 d) := keepc hb4 (by first | assumption | (go_simp; done))) | (go_at_call 56; refine use_b (rHigh_ok _ _ _ H.out) ?_; intro w5 hb5; have q0 : w5.cell? ⟨w.heap.size, 0, none⟩ = some (.int .i64 f) := keepc hb5 (by first | assumption | (go_simp; done)); have q1 : w5.cell? ⟨w.heap.size, 1, none⟩ = some (.int .i64 d) := keepc hb5 (by first | assumption | (go_simp; done))))
    all_goals
      go_ret2
      refine ⟨ret_t2 (?_ : _ = unfoldS f d g _) rfl, by repeat (first | exact Below.refl _ _ | apply bl_alloc | apply bl_drew | apply bl_drewN | (refine bl_tr' (by assumption) ?_))⟩
      rw [hc.out, ← Hp.out, hu.out]
      split <;> (try split) <;> omega
  · have u1 : (2 * m + 1) / 2 = m := by omega
    have u2 : ((2 * m + 1) % 2 == 1) = true := by first | (simp; done) | (simp; omega)
    have u3 : (-(2 * m + 1 + 1)).tdiv 2 = - m - 1 := by rw [show -(2 * m + 1 + 1) = 2 * (-m-1) by omega]; exact Int.mul_tdiv_cancel_left _ (by decide)
    have hu := Lib.hid (show unSym (2 * m + 1) = - m - 1 by unfold unSym; rw [if_neg (by omega)]; omega)
    go_enter Try.func19, Try.ntmps19
    go_wp2_with (first | (go_at_call 54; refine use_b (rWithin_yes _ _ g _ H1.out) ?_; intro w1 hb1; have q0 : w1.cell? ⟨w.heap.size, 0, none⟩ = some (.int .i64 f) := keepc hb1 (by first | assumption | (go_simp; done)); have q1 : w1.cell? ⟨w.heap.size, 1, none⟩ = some (.int .i64 d) := keepc hb1 (by first | assumption | (go_simp; done))) | (go_at_call 55; refine use_b (rPower _ _ (by omega)) ?_; rw [← Hp.out]; intro w3 hb3; have q0 : w3.cell? ⟨w.heap.size, 0, none⟩ = some (.int .i64 f) := keepc hb3 (by first | assumption | (go_simp; done)); have q1 : w3.cell? ⟨w.heap.size, 1, none⟩ = some (.int .i64 d) := keepc hb3 (by first | assumption | (go_simp; done))) | (go_at_call 57; refine use_b (rLow_ok _ _ _ H.out) ?_; intro w4 hb4; have q0 : w4.cell? ⟨w.heap.size, 0, none⟩ = some (.int .i64 f) := keepc hb4 (by first | assumption | (go_simp; done)); have q1 : w4.cell? ⟨w.heap.size, 1, none⟩ = some (.int .i64 d) := keepc hb4 (by first | assumption | (go_simp; done))) | (go_at_call 56; refine use_b (rHigh_ok _ _ _ H.out) ?_; intro w5 hb5; have q0 : w5.cell? ⟨w.heap.size, 0, none⟩ = some (.int .i64 f) := keepc hb5 (by first | assumption | (go_simp; done)); have q1 : w5.cell? ⟨w.heap.size, 1, none⟩ = some (.int .i64 d) := keepc hb5 (by first | assumption | (go_simp; done))))
    all_goals
      go_ret2
      refine ⟨ret_t2 (?_ : _ = unfoldS f d g _) rfl, by repeat (first | exact Below.refl _ _ | apply bl_alloc | apply bl_drew | apply bl_drewN | (refine bl_tr' (by assumption) ?_))⟩
      rw [hc.out, ← Hp.out, hu.out]
      split <;> (try split) <;> omega
theorem rUnfold_no (f d g s : Int) (w : World) (h : ¬ (KIn f d g ∧ 0 ≤ s ∧ s < 2 ^ d.toNat)) :
    Calls Try.prog 19 #[.agg #[.int .i64 f, .int .i64 d], .int .i64 g, .int .i64 s] w fun e w' => e = .returned (.tuple #[.int .i64 0, .int .i64 1]) ∧ Below w.heap.size w w' := by
  by_cases h1 : KIn f d g
  · have H1 := Lib.hid h1
    obtain ⟨b1, b2, b3, b4, b5, b6, b7, b8⟩ := kbounds h1.1
    obtain ⟨⟨-, hd1, hd2⟩, hx1, hx2⟩ := h1
    obtain ⟨p, hp⟩ : ∃ p : Int, p = 2 ^ d.toNat := ⟨_, rfl⟩
    have h9 : s < 0 ∨ (0 ≤ s ∧ p ≤ s) := by
      by_cases h3 : s < 0
      · exact .inl h3
      · refine .inr ⟨by omega, Int.not_lt.mp fun h4 => h ⟨H1.out, by omega, by omega⟩⟩
    rw [← hp] at b6 b7
    have Hp := Lib.hid hp
    clear hp h b5 b8
    rcases h9 with h9 | ⟨h8, h9⟩
    all_goals
      go_enter Try.func19, Try.ntmps19
      go_wp2_with (first | (go_at_call 54; refine use_b (rWithin_yes _ _ g _ H1.out) ?_; intro w1 hb1; have q0 : w1.cell? ⟨w.heap.size, 0, none⟩ = some (.int .i64 f) := keepc hb1 (by first | assumption | (go_simp; done)); have q1 : w1.cell? ⟨w.heap.size, 1, none⟩ = some (.int .i64 d) := keepc hb1 (by first | assumption | (go_simp; done))) | (go_at_call 55; refine use_b (rPower _ _ (by omega)) ?_; rw [← Hp.out]; intro w3 hb3; have q0 : w3.cell? ⟨w.heap.size, 0, none⟩ = some (.int .i64 f) := keepc hb3 (by first | assumption | (go_simp; done)); have q1 : w3.cell? ⟨w.heap.size, 1, none⟩ = some (.int .i64 d) := keepc hb3 (by first | assumption | (go_simp; done))))
      go_ret2
      exact ⟨rfl, by repeat (first | exact Below.refl _ _ | apply bl_alloc | apply bl_drew | apply bl_drewN | (refine bl_tr' (by assumption) ?_))⟩
  · have H1 := Lib.hid h1
    clear h h1
    go_enter Try.func19, Try.ntmps19
    go_wp2_with (first | (go_at_call 54; refine use_b (rWithin_no _ _ g _ H1.out) ?_; intro w1 hb1; have q0 : w1.cell? ⟨w.heap.size, 0, none⟩ = some (.int .i64 f) := keepc hb1 (by first | assumption | (go_simp; done)); have q1 : w1.cell? ⟨w.heap.size, 1, none⟩ = some (.int .i64 d) := keepc hb1 (by first | assumption | (go_simp; done))))
    go_ret2
    exact ⟨rfl, by repeat (first | exact Below.refl _ _ | apply bl_alloc | apply bl_drew | apply bl_drewN | (refine bl_tr' (by assumption) ?_))⟩
theorem awake27 (w : World) : Calls Try.prog 20 #[] w fun e w' => e = .returned (.bool true) ∧ Below w.heap.size w w' := by
  go_enter Try.func20, Try.ntmps20
  go_wp2_with fail
  refine use_b (cFold_yes 0 8 250 3 _ (by unfold KIn KOk klow khigh; decide +kernel) (by unfold KIn KOk klow khigh; decide +kernel)) ?_
  intro w1 hb1
  rw [show foldD 8 (250 - 3) = -9 by decide +kernel, show symOf (-9) = 17 by decide +kernel]
  go_wp2_with fail
  go_ret
  exact ⟨rfl, by repeat (first | exact Below.refl _ _ | apply bl_alloc | apply bl_drew | apply bl_drewN | (refine bl_tr' (by assumption) ?_))⟩
end Go.Proofs.Ytehcimecmbcdfaa
