/- Register codes: rows of instructions; may a code be (code.Check, ref11.May)? -/
import Derived.Test.YtehcimecmbcdfaaXMay2
import Derived.Test.YtehcimecmbcdfaaXKind
set_option linter.unusedSimpArgs false
set_option linter.unusedVariables false
namespace Go.Proofs.Ytehcimecmbcdfaa
open Go.RowKit

def zIns : Ins := ⟨0, 0, 0, 0, 0, 0⟩
/-- A slice of instructions that is read. -/
def RdN (w : World) (A : Option Addr) (l : List Ins) : Prop :=
  l.length ≤ 9223372036854775807 ∧ (0 < l.length → ∃ ad, A = some ad ∧ ∀ j, j < l.length → ∀ i, i < 6 → w.cell? ((ad.add (j * 6)).add i) = some ((l.getD j zIns).cells.getD i (.int .i64 0)))
theorem add_pos (p : Addr) (i : Nat) (h : 0 < i) : p.add i = ⟨p.block, p.off + i, none⟩ := by unfold Addr.add; rw [if_neg (by omega)]
theorem add_zero (p : Addr) : p.add 0 = p := by unfold Addr.add; simp
theorem RdN.at_ {w : World} {A : Option Addr} {l : List Ins} (h : RdN w A l) (j : Nat) (hj : j < l.length) : ∃ ad, A = some ad ∧
    w.cell? (ad.add (j * 6)) = some (.int .i64 (l.getD j zIns).op) ∧
    w.cell? ⟨(ad.add (j * 6)).block, (ad.add (j * 6)).off + 1, none⟩ = some (.int .i64 (l.getD j zIns).a) ∧
    w.cell? ⟨(ad.add (j * 6)).block, (ad.add (j * 6)).off + 2, none⟩ = some (.int .i64 (l.getD j zIns).b) ∧
    w.cell? ⟨(ad.add (j * 6)).block, (ad.add (j * 6)).off + 3, none⟩ = some (.int .i64 (l.getD j zIns).c) ∧
    w.cell? ⟨(ad.add (j * 6)).block, (ad.add (j * 6)).off + 4, none⟩ = some (.int .i64 (l.getD j zIns).k) ∧
    w.cell? ⟨(ad.add (j * 6)).block, (ad.add (j * 6)).off + 5, none⟩ = some (.int .i64 (l.getD j zIns).s) := by
  obtain ⟨ad, e, hc⟩ := h.2 (by omega)
  have hh := hc j hj
  have h0 := hh 0 (by omega)
  rw [add_zero] at h0
  refine ⟨ad, e, h0, ?_, ?_, ?_, ?_, ?_⟩
  · rw [← add_pos _ 1 (by omega)]; exact hh 1 (by omega)
  · rw [← add_pos _ 2 (by omega)]; exact hh 2 (by omega)
  · rw [← add_pos _ 3 (by omega)]; exact hh 3 (by omega)
  · rw [← add_pos _ 4 (by omega)]; exact hh 4 (by omega)
  · rw [← add_pos _ 5 (by omega)]; exact hh 5 (by omega)
theorem RdN.below {w w1 : World} {A : Option Addr} {l : List Ins} (h : RdN w A l) (hb : Below w.heap.size w w1) : RdN w1 A l :=
  ⟨h.1, fun hn => by
    obtain ⟨ad, e, hc⟩ := h.2 hn
    exact ⟨ad, e, fun j hj i hi => keepc hb (hc j hj i hi)⟩⟩
theorem RdN.kp {S : Nat → Prop} {w w1 : World} {A : Option Addr} {l : List Ins} (h : RdN w A l) (hk : Kp S w w1) (hs : ∀ ad, A = some ad → ¬ S ad.block) : RdN w1 A l :=
  ⟨h.1, fun hn => by
    obtain ⟨ad, e, hc⟩ := h.2 hn
    refine ⟨ad, e, fun j hj i hi => hk.cell ?_ (hc j hj i hi)⟩
    have hb : ((ad.add (j * 6)).add i).block = ad.block := by unfold Addr.add; split <;> split <;> rfl
    rw [hb]
    exact hs ad e⟩
def wfL (l : List Ins) : Prop := ∀ n ∈ l, n.wf
theorem wfL.at_ {l : List Ins} (h : wfL l) (j : Nat) (hj : j < l.length) : (l.getD j zIns).wf := by
  rw [List.getD_eq_getElem?_getD, List.getElem?_eq_getElem hj]
  exact h _ (List.getElem_mem hj)
/-- may all instructions stand where they stand? -/
def allMay (l : List Ins) : Bool := (List.range l.length).all fun i => mayI (l.getD i zIns) i
theorem allMay_yes {l : List Ins} (h : ∀ i, i < l.length → mayI (l.getD i zIns) i = true) : allMay l = true := by
  unfold allMay; rw [List.all_eq_true]; intro i hi; exact h i (List.mem_range.1 hi)
theorem allMay_no {l : List Ins} (i : Nat) (hi : i < l.length) (h : mayI (l.getD i zIns) i = false) : allMay l = false := by
  unfold allMay; rw [List.all_eq_false]; exact ⟨i, List.mem_range.2 hi, by rw [h]; simp⟩
theorem allMay_at {l : List Ins} (h : allMay l = true) (i : Nat) (hi : i < l.length) : mayI (l.getD i zIns) i = true := by
  unfold allMay at h; rw [List.all_eq_true] at h; exact h i (List.mem_range.2 hi)
/-- may a code be? -/
def KOkB (f d : Int) : Bool := decide ((f = 0 ∨ f = 1) ∧ 1 ≤ d ∧ d ≤ 16)
theorem KOkB_iff (f d : Int) : KOkB f d = true ↔ KOk f d := by unfold KOkB KOk; exact decide_eq_true_iff
def mayC (f d : Int) (l : List Ins) (out : Int) : Bool :=
  KOkB f d && decide (1 ≤ l.length ∧ l.length ≤ 200 ∧ 0 ≤ out ∧ out < (l.length : Int)) && allMay l
def CodErr (b : Bool) : Int := if b then 0 else 15
def ChkRel (w w1 : World) (N : Nat) (l : List Ins) (i : Value) (wr : World) : Prop :=
  ∃ k : Nat, k ≤ N ∧ i = .int .i64 k ∧ (∀ j, j < k → mayI (l.getD j zIns) j = true) ∧ Below w1.heap.size w1 wr
set_option maxRecDepth 20000 in
set_option maxHeartbeats 400000 in
theorem check_bad (f d : Int) (A : Option Addr) (c N : Nat) (out : Int) (w : World) (hN : N ≤ 9223372036854775807) (h : ¬ KOk f d ∨ (KOk f d ∧ (N < 1 ∨ 200 < N ∨ out < 0 ∨ (N : Int) ≤ out))) :
    Calls Try.prog 49 #[.agg #[.int .i64 f, .int .i64 d, .slice A N c, .int .i64 out]] w fun e w' => e = .returned (.int .i64 15) ∧ Below w.heap.size w w' := by
  rcases h with hk | ⟨hk, h⟩
  · have HK := Lib.hid hk
    clear hk
    go_enter Try.func49, Try.ntmps49
    go_wp2_with (go_at_call 21; refine use_b (kCheck_no _ _ _ HK.out) ?_; intro w1 hb1)
    go_ret
    exact ⟨rfl, by repeat (first | exact Below.refl _ _ | apply bl_alloc | apply bl_drew | apply bl_drewN | (refine bl_tr' (by assumption) ?_))⟩
  · have HK := Lib.hid hk
    clear hk
    by_cases h1 : N < 1
    · go_enter Try.func49, Try.ntmps49
      go_wp2_with (go_at_call 21; refine use_b (kCheck_ok _ _ _ HK.out) ?_; intro w1 hb1; have c2 := keepc hb1 (blk_cell (blk_new w _) 2))
      go_ret
      exact ⟨rfl, by repeat (first | exact Below.refl _ _ | apply bl_alloc | apply bl_drew | apply bl_drewN | (refine bl_tr' (by assumption) ?_))⟩
    by_cases h2 : 200 < N
    · go_enter Try.func49, Try.ntmps49
      go_wp2_with (go_at_call 21; refine use_b (kCheck_ok _ _ _ HK.out) ?_; intro w1 hb1; have c2 := keepc hb1 (blk_cell (blk_new w _) 2))
      go_ret
      exact ⟨rfl, by repeat (first | exact Below.refl _ _ | apply bl_alloc | apply bl_drew | apply bl_drewN | (refine bl_tr' (by assumption) ?_))⟩
    by_cases h3 : out < 0
    · go_enter Try.func49, Try.ntmps49
      go_wp2_with (go_at_call 21; refine use_b (kCheck_ok _ _ _ HK.out) ?_; intro w1 hb1; have c2 := keepc hb1 (blk_cell (blk_new w _) 2); have c3 := keepc hb1 (blk_cell (blk_new w _) 3))
      go_ret
      exact ⟨rfl, by repeat (first | exact Below.refl _ _ | apply bl_alloc | apply bl_drew | apply bl_drewN | (refine bl_tr' (by assumption) ?_))⟩
    have h4 : (N : Int) ≤ out := by omega
    go_enter Try.func49, Try.ntmps49
    go_wp2_with (go_at_call 21; refine use_b (kCheck_ok _ _ _ HK.out) ?_; intro w1 hb1; have c2 := keepc hb1 (blk_cell (blk_new w _) 2); have c3 := keepc hb1 (blk_cell (blk_new w _) 3))
    go_ret
    exact ⟨rfl, by repeat (first | exact Below.refl _ _ | apply bl_alloc | apply bl_drew | apply bl_drewN | (refine bl_tr' (by assumption) ?_))⟩
end Go.Proofs.Ytehcimecmbcdfaa
