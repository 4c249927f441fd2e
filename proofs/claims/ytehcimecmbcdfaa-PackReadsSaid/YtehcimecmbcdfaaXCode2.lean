/- Contracts: may a code be (code.Check, ref11.May)? -/
import Derived.Test.YtehcimecmbcdfaaXCode
set_option linter.unusedSimpArgs false
set_option linter.unusedVariables false
namespace Go.Proofs.Ytehcimecmbcdfaa
open Go.RowKit

set_option maxRecDepth 20000 in
set_option maxHeartbeats 400000 in
theorem check_good (f d : Int) (A : Option Addr) (c N : Nat) (l : List Ins) (out : Int) (w : World) (hr : RdN w A l) (hN : l.length = N) (hw : wfL l) (hk : KOk f d) (h1 : 1 ≤ N) (h2 : N ≤ 200) (h3 : 0 ≤ out) (h4 : out < (N : Int)) :
    Calls Try.prog 49 #[.agg #[.int .i64 f, .int .i64 d, .slice A N c, .int .i64 out]] w fun e w' => e = .returned (.int .i64 (CodErr (allMay l))) ∧ Below w.heap.size w w' := by
  have HN := Lib.hid hN
  have HR := Lib.hid hr
  have HW := Lib.hid hw
  have HK := Lib.hid hk
  clear hr hw hN hk
  go_enter Try.func49, Try.ntmps49
  go_wp2_with (go_at_call 21; refine use_b (kCheck_ok _ _ _ HK.out) ?_; intro w1 hb1; have c2 := keepc hb1 (blk_cell (blk_new w _) 2); have c3 := keepc hb1 (blk_cell (blk_new w _) 3))
  have B1 := Lib.hid (bl_tr (bl1 _) hb1.out)
  have R1 := Lib.hid (HR.out.below B1.out)
  go_loopw [3, 4, 37] (fun _ _ i wr => ChkRel w w1 N l i wr) (fun _ _ i _ => N - (intOf i).toNat)
  case atStart => exact ⟨0, Nat.zero_le _, rfl, fun j hj => absurd hj (Nat.not_lt_zero _), Below.refl _ _⟩
  case round =>
    obtain ⟨k, hk, rfl, hok, hb⟩ := hrel
    have HOK := Lib.hid hok
    have HB := Lib.hid hb
    clear hok hb
    by_cases hlt : k < N
    · have RR := Lib.hid (R1.out.below HB.out)
      obtain ⟨ad, rfl, q0, q1, q2, q3, q4, q5⟩ := RR.out.at_ k (by rw [HN.out]; exact hlt)
      have hwf := Lib.hid (HW.out.at_ k (by rw [HN.out]; exact hlt))
      obtain ⟨n, hn⟩ : ∃ n, l.getD k zIns = n := ⟨_, rfl⟩
      rw [hn] at q0 q1 q2 q3 q4 q5 hwf
      have Hn := Lib.hid hn
      obtain ⟨op, a, b, c', kk, s⟩ := n
      clear hn
      simp only at q0 q1 q2 q3 q4 q5
      have hm := Lib.hid (show In64 (k : Int) by unfold In64; omega)
      obtain ⟨r, hr⟩ : ∃ r, mayI ⟨op, a, b, c', kk, s⟩ k = r := ⟨_, rfl⟩
      have Hr := Lib.hid hr
      clear hr
      go_wp2_with fail
      refine use_b (may_any ⟨op, a, b, c', kk, s⟩ k _ hwf.out hm.out) ?_
      rw [Hr.out]
      intro w2 hb2
      have B2 := Lib.hid (bl_tr (bl_alloc HB.out (.cells (Ins.cells ⟨op, a, b, c', kk, s⟩) 92)) hb2.out)
      cases r with
      | true =>
        go_wp2
        go_roundw
        case measure => simp [intOf]; omega
        case rel =>
          refine ⟨k + 1, by omega, by go_num, fun j hj => ?_, B2.out⟩
          by_cases hj2 : j = k
          · subst hj2; rw [Hn.out]; exact Hr.out
          · exact HOK.out j (by omega)
      | false =>
        have hb := Lib.hid (show (15 : Int) = CodErr (allMay l) by rw [allMay_no k (by rw [HN.out]; exact hlt) (by rw [Hn.out]; exact Hr.out)]; rfl)
        go_wp2
        go_ret
        exact ⟨ret_t1 hb.out, bl_tr B1.out B2.out⟩
    · have hb := Lib.hid (show (0 : Int) = CodErr (allMay l) by rw [allMay_yes (fun i hi => HOK.out i (by rw [HN.out] at hi; omega))]; rfl)
      go_wp2
      go_ret
      exact ⟨ret_t1 hb.out, bl_tr B1.out HB.out⟩
theorem check_any (f d : Int) (A : Option Addr) (c N : Nat) (l : List Ins) (out : Int) (w : World) (hr : RdN w A l) (hN : l.length = N) (hw : wfL l) :
    Calls Try.prog 49 #[.agg #[.int .i64 f, .int .i64 d, .slice A N c, .int .i64 out]] w fun e w' => e = .returned (.int .i64 (CodErr (mayC f d l out))) ∧ Below w.heap.size w w' := by
  have hmax := hr.1
  rw [hN] at hmax
  by_cases hk : KOk f d ∧ 1 ≤ N ∧ N ≤ 200 ∧ 0 ≤ out ∧ out < (N : Int)
  · obtain ⟨hk, h1, h2, h3, h4⟩ := hk
    rw [show mayC f d l out = allMay l by unfold mayC; rw [(KOkB_iff f d).2 hk, hN, decide_eq_true ⟨h1, h2, h3, h4⟩]; simp]
    exact check_good f d A c N l out w hr hN hw hk h1 h2 h3 h4
  · have e : mayC f d l out = false := by
      unfold mayC
      by_cases h0 : KOk f d
      · rw [hN, decide_eq_false (fun h => hk ⟨h0, h⟩)]; simp
      · rw [show KOkB f d = false by rw [Bool.eq_false_iff]; exact fun h => h0 ((KOkB_iff f d).1 h)]; simp
    rw [e]
    exact check_bad f d A c N out w hmax (by
      by_cases h0 : KOk f d
      · exact .inr ⟨h0, by have : ¬ (1 ≤ N ∧ N ≤ 200 ∧ 0 ≤ out ∧ out < (N : Int)) := fun h => hk ⟨h0, h⟩; omega⟩
      · exact .inl h0)

/-! the reference's -/
set_option maxRecDepth 20000 in
set_option maxHeartbeats 400000 in
theorem rmay_bad (f d : Int) (A : Option Addr) (c N : Nat) (out : Int) (w : World) (hN : N ≤ 9223372036854775807) (h : ¬ KOk f d ∨ (KOk f d ∧ (N < 1 ∨ 200 < N ∨ out < 0 ∨ (N : Int) ≤ out))) :
    Calls Try.prog 66 #[.agg #[.int .i64 f, .int .i64 d, .slice A N c, .int .i64 out]] w fun e w' => e = .returned (.bool false) ∧ Below w.heap.size w w' := by
  rcases h with hk | ⟨hk, h⟩
  · have HK := Lib.hid hk
    clear hk
    go_enter Try.func66, Try.ntmps66
    go_wp2_with (go_at_call 81; refine use_b (rMay_no _ _ _ HK.out) ?_; intro w1 hb1)
    go_ret
    exact ⟨rfl, by repeat (first | exact Below.refl _ _ | apply bl_alloc | apply bl_drew | apply bl_drewN | (refine bl_tr' (by assumption) ?_))⟩
  · have HK := Lib.hid hk
    clear hk
    by_cases h1 : N < 1
    · obtain rfl : N = 0 := by omega
      go_enter Try.func66, Try.ntmps66
      go_wp2_with (go_at_call 81; refine use_b (rMay_ok _ _ _ HK.out) ?_; intro w1 hb1; have c2 := keepc hb1 (blk_cell (blk_new w _) 2))
      go_ret
      exact ⟨rfl, by repeat (first | exact Below.refl _ _ | apply bl_alloc | apply bl_drew | apply bl_drewN | (refine bl_tr' (by assumption) ?_))⟩
    have e1 : (N == 0) = false := by simpa using (by omega : ¬ N = 0)
    have e2 : ((N : Int) == 0) = false := by simpa using (by omega : ¬ N = 0)
    by_cases h2 : 200 < N
    · go_enter Try.func66, Try.ntmps66
      go_wp2_with (go_at_call 81; refine use_b (rMay_ok _ _ _ HK.out) ?_; intro w1 hb1; have c2 := keepc hb1 (blk_cell (blk_new w _) 2))
      go_ret
      exact ⟨rfl, by repeat (first | exact Below.refl _ _ | apply bl_alloc | apply bl_drew | apply bl_drewN | (refine bl_tr' (by assumption) ?_))⟩
    by_cases h3 : out < 0
    · go_enter Try.func66, Try.ntmps66
      go_wp2_with (go_at_call 81; refine use_b (rMay_ok _ _ _ HK.out) ?_; intro w1 hb1; have c2 := keepc hb1 (blk_cell (blk_new w _) 2); have c3 := keepc hb1 (blk_cell (blk_new w _) 3))
      go_ret
      exact ⟨rfl, by repeat (first | exact Below.refl _ _ | apply bl_alloc | apply bl_drew | apply bl_drewN | (refine bl_tr' (by assumption) ?_))⟩
    have h4 : (N : Int) ≤ out := by omega
    go_enter Try.func66, Try.ntmps66
    go_wp2_with (go_at_call 81; refine use_b (rMay_ok _ _ _ HK.out) ?_; intro w1 hb1; have c2 := keepc hb1 (blk_cell (blk_new w _) 2); have c3 := keepc hb1 (blk_cell (blk_new w _) 3))
    go_ret
    exact ⟨rfl, by repeat (first | exact Below.refl _ _ | apply bl_alloc | apply bl_drew | apply bl_drewN | (refine bl_tr' (by assumption) ?_))⟩
set_option maxRecDepth 20000 in
set_option maxHeartbeats 400000 in
theorem rmay_good (f d : Int) (A : Option Addr) (c N : Nat) (l : List Ins) (out : Int) (w : World) (hr : RdN w A l) (hN : l.length = N) (hw : wfL l) (hk : KOk f d) (h1 : 1 ≤ N) (h2 : N ≤ 200) (h3 : 0 ≤ out) (h4 : out < (N : Int)) :
    Calls Try.prog 66 #[.agg #[.int .i64 f, .int .i64 d, .slice A N c, .int .i64 out]] w fun e w' => e = .returned (.bool (allMay l)) ∧ Below w.heap.size w w' := by
  have HN := Lib.hid hN
  have HR := Lib.hid hr
  have HW := Lib.hid hw
  have HK := Lib.hid hk
  clear hr hw hN hk
  have e1 : (N == 0) = false := by simpa using (by omega : ¬ N = 0)
  have e2 : ((N : Int) == 0) = false := by simpa using (by omega : ¬ N = 0)
  go_enter Try.func66, Try.ntmps66
  go_wp2_with (go_at_call 81; refine use_b (rMay_ok _ _ _ HK.out) ?_; intro w1 hb1; have c2 := keepc hb1 (blk_cell (blk_new w _) 2); have c3 := keepc hb1 (blk_cell (blk_new w _) 3))
  have B1 := Lib.hid (bl_tr (bl1 _) hb1.out)
  have R1 := Lib.hid (HR.out.below B1.out)
  go_loopw [3] (fun i wr => ChkRel w w1 N l i wr) (fun i _ => N - (intOf i).toNat)
  case atStart => exact ⟨0, Nat.zero_le _, rfl, fun j hj => absurd hj (Nat.not_lt_zero _), Below.refl _ _⟩
  case round =>
    obtain ⟨k, hk, rfl, hok, hb⟩ := hrel
    have HOK := Lib.hid hok
    have HB := Lib.hid hb
    have d2 := keepc HB c2
    clear hok hb
    by_cases hlt : k < N
    · have RR := Lib.hid (R1.out.below HB.out)
      obtain ⟨ad, rfl, q0, q1, q2, q3, q4, q5⟩ := RR.out.at_ k (by rw [HN.out]; exact hlt)
      have hwf := Lib.hid (HW.out.at_ k (by rw [HN.out]; exact hlt))
      obtain ⟨n, hn⟩ : ∃ n, l.getD k zIns = n := ⟨_, rfl⟩
      rw [hn] at q0 q1 q2 q3 q4 q5 hwf
      have Hn := Lib.hid hn
      obtain ⟨op, a, b, c', kk, s⟩ := n
      clear hn
      simp only at q0 q1 q2 q3 q4 q5
      have hm := Lib.hid (show 0 ≤ (k : Int) ∧ (k : Int) ≤ 9223372036854775807 by omega)
      obtain ⟨r, hr⟩ : ∃ r, mayI ⟨op, a, b, c', kk, s⟩ k = r := ⟨_, rfl⟩
      have Hr := Lib.hid hr
      clear hr
      go_wp2_with fail
      refine use_b (rmay_any ⟨op, a, b, c', kk, s⟩ k _ hwf.out hm.out) ?_
      rw [Hr.out]
      intro w2 hb2
      have B2 := Lib.hid (bl_tr HB.out hb2.out)
      cases r with
      | true =>
        go_wp2
        go_roundw
        case measure => simp [intOf]; omega
        case rel =>
          refine ⟨k + 1, by omega, by go_num, fun j hj => ?_, B2.out⟩
          by_cases hj2 : j = k
          · subst hj2; rw [Hn.out]; exact Hr.out
          · exact HOK.out j (by omega)
      | false =>
        have hb := Lib.hid (show false = allMay l by rw [allMay_no k (by rw [HN.out]; exact hlt) (by rw [Hn.out]; exact Hr.out)])
        go_wp2
        go_ret
        exact ⟨ret_b hb.out, bl_tr B1.out B2.out⟩
    · have hb := Lib.hid (show true = allMay l by rw [allMay_yes (fun i hi => HOK.out i (by rw [HN.out] at hi; omega))])
      go_wp2
      go_ret
      exact ⟨ret_b hb.out, bl_tr B1.out HB.out⟩
theorem rMayC_any (f d : Int) (A : Option Addr) (c N : Nat) (l : List Ins) (out : Int) (w : World) (hr : RdN w A l) (hN : l.length = N) (hw : wfL l) :
    Calls Try.prog 66 #[.agg #[.int .i64 f, .int .i64 d, .slice A N c, .int .i64 out]] w fun e w' => e = .returned (.bool (mayC f d l out)) ∧ Below w.heap.size w w' := by
  have hmax := hr.1
  rw [hN] at hmax
  by_cases hk : KOk f d ∧ 1 ≤ N ∧ N ≤ 200 ∧ 0 ≤ out ∧ out < (N : Int)
  · obtain ⟨hk, h1, h2, h3, h4⟩ := hk
    rw [show mayC f d l out = allMay l by unfold mayC; rw [(KOkB_iff f d).2 hk, hN, decide_eq_true ⟨h1, h2, h3, h4⟩]; simp]
    exact rmay_good f d A c N l out w hr hN hw hk h1 h2 h3 h4
  · have e : mayC f d l out = false := by
      unfold mayC
      by_cases h0 : KOk f d
      · rw [hN, decide_eq_false (fun h => hk ⟨h0, h⟩)]; simp
      · rw [show KOkB f d = false by rw [Bool.eq_false_iff]; exact fun h => h0 ((KOkB_iff f d).1 h)]; simp
    rw [e]
    exact rmay_bad f d A c N out w hmax (by
      by_cases h0 : KOk f d
      · exact .inr ⟨h0, by have : ¬ (1 ≤ N ∧ N ≤ 200 ∧ 0 ≤ out ∧ out < (N : Int)) := fun h => hk ⟨h0, h⟩; omega⟩
      · exact .inl h0)
end Go.Proofs.Ytehcimecmbcdfaa
