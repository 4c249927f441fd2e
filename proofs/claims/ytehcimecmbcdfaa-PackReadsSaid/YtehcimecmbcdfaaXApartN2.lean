/- Two codes in memory of their own share none. -/
import Derived.Test.YtehcimecmbcdfaaXApartN
set_option linter.unusedSimpArgs false
set_option linter.unusedVariables false
namespace Go.Proofs.Ytehcimecmbcdfaa
open Go.RowKit

theorem apartN_two {X : World} {va vb f d f' d' o o' : Value} {l m : List Ins} {p : Nat} (ha : OwN X 0 va l) (hb : OwN X 0 vb m) (hla : l.length ≤ 1000000) (hlb : m.length ≤ 1000000)
    (hne : ∀ g, va.ownBlock = some g → vb.ownBlock ≠ some g) (hX : X.heap[p]? = some (.cells #[f, d, va, o, f', d', vb, o'] 64 (0, 0))) :
    Calls Try.prog 48 #[.slice (some ⟨p, 0, none⟩) 2 2] X fun e w' => e = .returned (.bool true) ∧ Kp (fun g => va.ownBlock = some g ∨ vb.ownBlock = some g) X w' := by
  have hF : ∀ g, FS 2 (fun i => if i = 0 then va else vb) g → va.ownBlock = some g ∨ vb.ownBlock = some g := by
    rintro g ⟨i, hi, h⟩
    by_cases h0 : i = 0
    · simp only [if_pos h0] at h; exact .inl h
    · simp only [if_neg h0] at h; exact .inr h
  refine (apartN_any 2 (fun i => if i = 0 then va else vb) (fun i => if i = 0 then l.length else m.length) (fun i => if i = 0 then l else m) ⟨p, 0, none⟩ 2 _ (by decide) ?_ ?_ ?_ ?_).mono ?_
  · intro i hi
    match i, hi with
    | 0, _ => exact blk_cell hX 2
    | 1, _ => exact blk_cell hX 6
  · intro h
    rcases hF _ h with h | h
    · exact ha.ne hX (by decide) h
    · exact hb.ne hX (by decide) h
  · intro i hi
    by_cases h0 : i = 0
    · subst h0; exact ⟨ha, rfl, hla⟩
    · simp only [if_neg h0]; exact ⟨hb, trivial, hlb⟩
  · intro i j g hi hj hij h1 h2
    by_cases h0 : i = 0
    · simp only [if_pos h0] at h1
      simp only [if_neg (show ¬ j = 0 by omega)] at h2
      exact hne g h1 h2
    · simp only [if_neg h0] at h1
      simp only [if_pos (show j = 0 by omega)] at h2
      exact hne g h2 h1
  · rintro e w' ⟨he, hk⟩
    exact ⟨he, hk.mono hF⟩
end Go.Proofs.Ytehcimecmbcdfaa
