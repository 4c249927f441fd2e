/- The code of bytes, plainly. -/
import Derived.Test.YtehcimecmbcdfaaXPackF
import Derived.Test.YtehcimecmbcdfaaXOctet4
set_option linter.unusedSimpArgs false
set_option linter.unusedVariables false
namespace Go.Proofs.Ytehcimecmbcdfaa
open Go.RowKit

/-- bytes that are left, and the first error -/
structure Tk where
  t : List Int
  e : Int
def byteOf : List Int → Int × Nat × Int
  | [] => (0, 0, 2)
  | c :: _ => (c, 1, 0)
def Tk.rd (g : List Int → Int × Nat × Int) (σ : Tk) : Int × Tk := if σ.e = 0 then ((g σ.t).1, ⟨σ.t.drop (g σ.t).2.1, (g σ.t).2.2⟩) else (0, σ)
def Tk.fail (σ : Tk) (b : Bool) (x : Int) : Tk := if b = true ∧ σ.e = 0 then ⟨σ.t, x⟩ else σ
def Tk.reg (σ : Tk) (p : Int) : Int × Tk := (p - 1 - (σ.rd uintOf).1, (σ.rd uintOf).2.fail (decide (p ≤ (σ.rd uintOf).1)) 15)
def dA (σ : Tk) (i : Int) : Int × Tk := if 0 < ar (σ.rd byteOf).1 then (σ.rd byteOf).2.reg i else (0, (σ.rd byteOf).2)
def dB (σ : Tk) (i : Int) : Int × Tk := if 1 < ar (σ.rd byteOf).1 then (dA σ i).2.reg i else (0, (dA σ i).2)
def dC (σ : Tk) (i : Int) : Int × Tk := if 2 < ar (σ.rd byteOf).1 then (dB σ i).2.reg i else (0, (dB σ i).2)
def dK (σ : Tk) (i : Int) : Int × Tk :=
  if howN (σ.rd byteOf).1 = 1 then (dC σ i).2.rd sintOf
  else if howN (σ.rd byteOf).1 = 2 then (dC σ i).2.rd byteOf
  else if howN (σ.rd byteOf).1 = 3 ∨ howN (σ.rd byteOf).1 = 4 then (dC σ i).2.rd uintOf
  else (0, (dC σ i).2)
def dS (σ : Tk) (i : Int) : Int × Tk := if howN (σ.rd byteOf).1 = 4 then (dK σ i).2.rd byteOf else (0, (dK σ i).2)
/-- an instruction -/
def decI (σ : Tk) (i : Int) : Ins × Tk := (⟨(σ.rd byteOf).1, (dA σ i).1, (dB σ i).1, (dC σ i).1, (dK σ i).1, (dS σ i).1⟩, (dS σ i).2)
/-- k instructions, no more behind an error -/
def decN (σ : Tk) : Nat → List Ins × Tk
  | 0 => ([], σ)
  | k + 1 => if (decN σ k).2.e = 0 then ((decN σ k).1 ++ [(decI (decN σ k).2 k).1], (decI (decN σ k).2 k).2) else decN σ k
theorem decN_ok {σ : Tk} {k : Nat} (h : (decN σ k).2.e = 0) : decN σ (k + 1) = ((decN σ k).1 ++ [(decI (decN σ k).2 k).1], (decI (decN σ k).2 k).2) := by
  rw [decN, if_pos h]
theorem decN_no {σ : Tk} {k : Nat} (h : ¬ (decN σ k).2.e = 0) : decN σ (k + 1) = decN σ k := by
  rw [decN, if_neg h]
theorem decN_stop {σ : Tk} {k : Nat} (h : (decN σ k).2.e ≠ 0) : ∀ m, decN σ (k + m) = decN σ k
  | 0 => rfl
  | m + 1 => by
    have ih := decN_stop h m
    show (if (decN σ (k + m)).2.e = 0 then _ else decN σ (k + m)) = _
    rw [ih, if_neg h]
theorem decN_stop' {σ : Tk} {k n : Nat} (h : (decN σ k).2.e ≠ 0) (hn : k ≤ n) : decN σ n = decN σ k := by
  have := decN_stop h (n - k)
  rwa [Nat.add_sub_cancel' hn] at this
theorem decN_len {σ : Tk} : ∀ {k : Nat}, (∀ j, j < k → (decN σ j).2.e = 0) → (decN σ k).1.length = k
  | 0, _ => rfl
  | k + 1, h => by
    show (if (decN σ k).2.e = 0 then _ else decN σ k : List Ins × Tk).1.length = _
    rw [if_pos (h k (by omega)), List.length_append, decN_len fun j hj => h j (by omega)]
    rfl
def d1 (l : List Int) : Tk := ((⟨l, 0⟩ : Tk).rd byteOf).2.fail (decide (((⟨l, 0⟩ : Tk).rd byteOf).1 ≠ 1)) 3
def d2 (l : List Int) : Int × Tk := (d1 l).rd byteOf
def d3 (l : List Int) : Int × Tk := (d2 l).2.rd byteOf
def d4 (l : List Int) : Int × Tk := (d3 l).2.rd uintOf
def d5 (l : List Int) : Tk := (d4 l).2.fail (decide ((d4 l).1 < 1 ∨ 200 < (d4 l).1)) 15
def d6 (l : List Int) : List Ins × Tk := decN (d5 l) (d4 l).1.toNat
def d7 (l : List Int) : Int × Tk := (d6 l).2.reg (d4 l).1
def d8 (l : List Int) : Int := if (d7 l).2.e = 0 then (if 0 < (d7 l).2.t.length then 5 else 0) else (d7 l).2.e
def d9 (l : List Int) : Int := if d8 l = 0 then CodErr (mayC (d2 l).1 (d3 l).1 (d6 l).1 (d7 l).1) else d8 l
/-- the code of bytes, and the error -/
structure Cod where
  f : Int
  d : Int
  l : List Ins
  out : Int
def decC (l : List Int) : Cod × Int := if 4096 < l.length then (⟨0, 0, [], 0⟩, 4) else if d9 l = 0 then (⟨(d2 l).1, (d3 l).1, (d6 l).1, (d7 l).1⟩, 0) else (⟨0, 0, [], 0⟩, d9 l)

/-! ranges -/
theorem byteOf_rg {l : List Int} (h : Byt l) : 0 ≤ (byteOf l).1 ∧ (byteOf l).1 ≤ 255 := by
  cases l with
  | nil => simp [byteOf]
  | cons c t => exact h c List.mem_cons_self
theorem uintOf_rg (l : List Int) : 0 ≤ (uintOf l).1 ∧ (uintOf l).1 ≤ 9223372036854775807 := by
  unfold uintOf
  split <;> (try split) <;> simp <;> omega
theorem sintOf_rg {l : List Int} (h : Byt l) : In64 (sintOf l).1 := by
  unfold sintOf In64
  split
  · simp
  · simp
  · rename_i x n hv
    have := (vread_facts h hv).2.2
    simp only
    unfold unzig
    split <;> omega
theorem rd_byt {g : List Int → Int × Nat × Int} {σ : Tk} (h : Byt σ.t) : Byt (σ.rd g).2.t := by
  unfold Tk.rd; split
  · exact h.drop _
  · exact h
theorem fail_t (σ : Tk) (b : Bool) (x : Int) : (σ.fail b x).t = σ.t := by unfold Tk.fail; split <;> rfl
theorem rdb_rg {σ : Tk} (h : Byt σ.t) : 0 ≤ (σ.rd byteOf).1 ∧ (σ.rd byteOf).1 ≤ 255 := by
  unfold Tk.rd; split
  · exact byteOf_rg h
  · simp
theorem rdu_rg (σ : Tk) : 0 ≤ (σ.rd uintOf).1 ∧ (σ.rd uintOf).1 ≤ 9223372036854775807 := by
  unfold Tk.rd; split
  · exact uintOf_rg _
  · simp
theorem rds_rg {σ : Tk} (h : Byt σ.t) : In64 (σ.rd sintOf).1 := by
  unfold Tk.rd; split
  · exact sintOf_rg h
  · simp [In64]
theorem reg_byt {σ : Tk} {p : Int} (h : Byt σ.t) : Byt (σ.reg p).2.t := by unfold Tk.reg; simp only [fail_t]; exact rd_byt h
theorem reg_rg (σ : Tk) (p : Int) (h0 : 0 ≤ p) (h1 : p ≤ 9223372036854775807) : In64 (σ.reg p).1 := by
  have := rdu_rg σ
  unfold Tk.reg In64; simp only; omega
theorem dA_byt {σ : Tk} {i : Int} (h : Byt σ.t) : Byt (dA σ i).2.t := by unfold dA; split; exact reg_byt (rd_byt h); exact rd_byt h
theorem dB_byt {σ : Tk} {i : Int} (h : Byt σ.t) : Byt (dB σ i).2.t := by unfold dB; split; exact reg_byt (dA_byt h); exact dA_byt h
theorem dC_byt {σ : Tk} {i : Int} (h : Byt σ.t) : Byt (dC σ i).2.t := by unfold dC; split; exact reg_byt (dB_byt h); exact dB_byt h
theorem dK_byt {σ : Tk} {i : Int} (h : Byt σ.t) : Byt (dK σ i).2.t := by
  unfold dK; split; exact rd_byt (dC_byt h); split; exact rd_byt (dC_byt h); split; exact rd_byt (dC_byt h); exact dC_byt h
theorem dS_byt {σ : Tk} {i : Int} (h : Byt σ.t) : Byt (dS σ i).2.t := by unfold dS; split; exact rd_byt (dK_byt h); exact dK_byt h
theorem decN_byt {σ : Tk} (h : Byt σ.t) : ∀ k, Byt (decN σ k).2.t
  | 0 => h
  | k + 1 => by
    show Byt (if (decN σ k).2.e = 0 then _ else decN σ k : List Ins × Tk).2.t
    split
    · exact dS_byt (decN_byt h k)
    · exact decN_byt h k
theorem in64_zero : In64 0 := by simp [In64]
theorem decI_wf {σ : Tk} {i : Int} (h : Byt σ.t) (h0 : 0 ≤ i) (h1 : i ≤ 9223372036854775807) : (decI σ i).1.wf := by
  refine ⟨?_, ?_, ?_, ?_, ?_, ?_⟩
  · have := rdb_rg h; show In64 _; unfold In64; simp only [decI]; omega
  · show In64 (dA σ i).1; unfold dA; split; exact reg_rg _ _ h0 h1; exact in64_zero
  · show In64 (dB σ i).1; unfold dB; split; exact reg_rg _ _ h0 h1; exact in64_zero
  · show In64 (dC σ i).1; unfold dC; split; exact reg_rg _ _ h0 h1; exact in64_zero
  · show In64 (dK σ i).1
    unfold dK
    split
    · exact rds_rg (dC_byt h)
    · split
      · have := rdb_rg (dC_byt (i := i) h); unfold In64; omega
      · split
        · have := rdu_rg (dC σ i).2; unfold In64; omega
        · exact in64_zero
  · show In64 (dS σ i).1
    unfold dS
    split
    · have := rdb_rg (dK_byt (i := i) h); unfold In64; omega
    · exact in64_zero
theorem decN_wf {σ : Tk} (h : Byt σ.t) : ∀ k : Nat, k ≤ 9223372036854775807 → wfL (decN σ k).1
  | 0, _ => fun n hn => by simp [decN] at hn
  | k + 1, hk => by
    have ih := decN_wf h k (by omega)
    by_cases he : (decN σ k).2.e = 0
    · rw [decN_ok he]
      intro n hn
      rcases List.mem_append.1 hn with hn | hn
      · exact ih n hn
      · simp only [List.mem_singleton] at hn
        rw [hn]
        exact decI_wf (decN_byt h k) (by omega) (by omega)
    · rw [decN_no he]; exact ih
theorem d1_byt {l : List Int} (h : Byt l) : Byt (d1 l).t := by unfold d1; rw [fail_t]; exact rd_byt h
theorem d2_byt {l : List Int} (h : Byt l) : Byt (d2 l).2.t := rd_byt (d1_byt h)
theorem d3_byt {l : List Int} (h : Byt l) : Byt (d3 l).2.t := rd_byt (d2_byt h)
theorem d4_byt {l : List Int} (h : Byt l) : Byt (d4 l).2.t := rd_byt (d3_byt h)
theorem d5_byt {l : List Int} (h : Byt l) : Byt (d5 l).t := by unfold d5; rw [fail_t]; exact d4_byt h
theorem d4_rg (l : List Int) : 0 ≤ (d4 l).1 ∧ (d4 l).1 ≤ 9223372036854775807 := rdu_rg _
theorem d6_wf {l : List Int} (h : Byt l) : wfL (d6 l).1 := decN_wf (d5_byt h) _ (by have := d4_rg l; omega)
/-- without an error the number of instructions is right -/
theorem d5_ok {l : List Int} (h : (d5 l).e = 0) : 1 ≤ (d4 l).1 ∧ (d4 l).1 ≤ 200 := by
  unfold d5 Tk.fail at h
  by_cases hb : (d4 l).1 < 1 ∨ 200 < (d4 l).1
  · by_cases he : (d4 l).2.e = 0
    · rw [if_pos ⟨decide_eq_true hb, he⟩] at h; simp at h
    · rw [if_neg (fun h => he h.2)] at h; exact absurd h he
  · omega
theorem reg_stop {σ : Tk} {p : Int} (h : σ.e ≠ 0) : (σ.reg p).2 = σ ∧ (σ.reg p).1 = p - 1 := by
  unfold Tk.reg Tk.rd
  rw [if_neg h]
  refine ⟨?_, by simp⟩
  unfold Tk.fail
  rw [if_neg (fun h' => h h'.2)]
end Go.Proofs.Ytehcimecmbcdfaa
