/- The walk of the law PackBytes. -/
import Derived.Test.YtehcimecmbcdfaaXPackG
import Derived.Test.YtehcimecmbcdfaaXHeldN
import Derived.Test.YtehcimecmbcdfaaXApart2
set_option linter.unusedSimpArgs false
set_option linter.unusedVariables false
namespace Go.Proofs.Ytehcimecmbcdfaa
open Go.RowKit

/-- the bytes of a code, or none -/
def encB (f d : Int) (l : List Ins) (out : Int) : List Int := if mayC f d l out = true then encC f d l out else []
theorem enc_any (f d : Int) (A : Option Addr) (c N : Nat) (l : List Ins) (out : Int) (w : World) (hr : RdN w A l) (hN : l.length = N) (hw : wfL l) :
    Calls Try.prog 41 #[.agg #[.int .i64 f, .int .i64 d, .slice A N c, .int .i64 out]] w (OwnPost2 w 5 .u8 (encB f d l out) (CodErr (mayC f d l out))) := by
  cases hm : mayC f d l out with
  | true => rw [show encB f d l out = encC f d l out by unfold encB; rw [if_pos hm]]; exact enc_yes f d A c N l out w hr hN hw hm
  | false => rw [show encB f d l out = [] by unfold encB; rw [hm]; rfl]; exact enc_no f d A c N l out w hr hN hw hm
theorem rEnc_any (f d : Int) (A : Option Addr) (c N : Nat) (l : List Ins) (out : Int) (w : World) (hr : RdN w A l) (hN : l.length = N) (hw : wfL l) :
    Calls Try.prog 42 #[.agg #[.int .i64 f, .int .i64 d, .slice A N c, .int .i64 out]] w (OwnPost2 w 5 .u8 (encB f d l out) (CodErr (mayC f d l out))) := by
  cases hm : mayC f d l out with
  | true => rw [show encB f d l out = encC f d l out by unfold encB; rw [if_pos hm]]; exact rEnc_yes f d A c N l out w hr hN hw hm
  | false => rw [show encB f d l out = [] by unfold encB; rw [hm]; rfl]; exact rEnc_no f d A c N l out w hr hN hw hm
theorem natL10 (n : Int) (h : n ≤ 200) : (natL n).length ≤ 10 := natL_len (by omega)
theorem encB_len {f d : Int} {l : List Ins} {out : Int} (hw : wfL l) : (encB f d l out).length ≤ 9000 := by
  unfold encB
  split
  · rename_i h
    obtain ⟨h0, h1, h2, h3, h4, hall⟩ := mayC_parts h
    have e1 := encL_len (l := l) (N := l.length) (fun i hi => ⟨allMay_at hall i hi, (hw.at_ i hi).k⟩) h2 l.length (Nat.le_refl _)
    have e2 := natL10 (l.length : Int) (by omega)
    have e3 := natL10 ((l.length : Int) - 1 - out) (by omega)
    unfold encC
    rw [List.length_append, List.length_append, List.length_append]
    simp only [List.length_cons, List.length_nil]
    omega
  · simp
def awkL : List Ins := [⟨3, 0, 0, 0, 16, 0⟩, ⟨1, 0, 0, 0, -2, 0⟩, ⟨10, 0, 1, 0, 0, 0⟩]
theorem awkL_wf : wfL awkL := by
  intro n hn
  simp only [awkL, List.mem_cons, List.not_mem_nil, or_false] at hn
  rcases hn with rfl | rfl | rfl <;> exact ⟨by simp [In64], by simp [In64], by simp [In64], by simp [In64], by simp [In64], by simp [In64]⟩
theorem awk_enc : encB 0 8 awkL 2 = [1, 0, 8, 3, 3, 16, 1, 3, 10, 1, 0, 0] := by decide +kernel
theorem awk_may : CodErr (mayC 0 8 awkL 2) = 0 := by decide +kernel
set_option maxHeartbeats 400000 in
theorem awake19 (w : World) : Calls Try.prog 43 #[] w fun e w' => e = .returned (.bool true) ∧ Below w.heap.size w w' := by
  have hlit : Hid (RdN (w.alloc (.cells (flatC awkL).toArray 92)) (some ⟨w.heap.size, 0, none⟩) awkL) := by
    obtain ⟨A, c, e, -, -, h⟩ := (OwN.lit (W := w) (base := 0) awkL (Nat.zero_le _) (by decide)).rd
    injection e with e1
    subst e1
    exact h
  go_enter Try.func43, Try.ntmps43
  go_wp2_with fail
  refine use_own2 (by have h := enc_any 0 8 (some ⟨w.heap.size, 0, none⟩) 3 3 awkL 2 _ hlit.out rfl awkL_wf; rw [awk_enc, awk_may] at h; exact h) ?_
  intro v1 w1 hb1 ho1
  go_wp2_with fail
  refine use_b (same_any _ _ [1, 0, 8, 3, 3, 16, 1, 3, 10, 1, 0, 0] [1, 0, 8, 3, 3, 16, 1, 3, 10, 1, 0, 0] _ (ho1.out.below (bl1 _)).rd (OwI.lit (W := w1) (base := 0) (E := 5) (k := .u8) [1, 0, 8, 3, 3, 16, 1, 3, 10, 1, 0, 0] (Nat.zero_le _) (by simp)).rd) ?_
  rw [decide_eq_true rfl]
  intro w2 hb2
  go_wp2
  go_ret
  exact ⟨by first | rfl | (simp; done), bl_tr (bl_alloc (bl_tr (bl1 _) hb1.out) _) hb2.out⟩
end Go.Proofs.Ytehcimecmbcdfaa
