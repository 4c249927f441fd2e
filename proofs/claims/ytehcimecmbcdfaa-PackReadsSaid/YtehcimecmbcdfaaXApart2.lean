/- Two lists of bytes in memory of their own share none. -/
import Derived.Test.YtehcimecmbcdfaaXApart
set_option linter.unusedSimpArgs false
set_option linter.unusedVariables false
namespace Go.Proofs.Ytehcimecmbcdfaa
open Go.RowKit

/-- two lists of bytes in memory of their own share none -/
theorem apart_two {W X : World} {va vb : Value} {l m : List Int} {p : Nat} (ha : OwI W 0 5 .u8 va l) (hb : OwI W 0 5 .u8 vb m) (hla : l.length ≤ 140737488354304) (hlb : m.length ≤ 140737488354304)
    (hne : ∀ g, va.ownBlock = some g → vb.ownBlock ≠ some g) (hbl : Below W.heap.size W X) (hp : W.heap.size ≤ p) (hX : X.heap[p]? = some (.cells #[va, vb] 36 (0, 0))) :
    Calls Try.prog 31 #[.slice (some ⟨p, 0, none⟩) 2 2] X fun e w' => e = .returned (.bool true) ∧ Kp (fun g => va.ownBlock = some g ∨ vb.ownBlock = some g) X w' := by
  have hc : ∀ i, X.cell? ⟨p, i, none⟩ = #[va, vb][i]? := fun i => blk_cell hX i
  have hF : ∀ g, FS 2 (fun i => if i = 0 then va else vb) g → va.ownBlock = some g ∨ vb.ownBlock = some g := by
    rintro g ⟨i, hi, h⟩
    by_cases h0 : i = 0
    · simp only [if_pos h0] at h; exact .inl h
    · simp only [if_neg h0] at h; exact .inr h
  refine (apart_any 2 (fun i => if i = 0 then va else vb) (fun i => if i = 0 then l.length else m.length) (fun i => if i = 0 then l else m) ⟨p, 0, none⟩ 2 _ (by decide) ?_ ?_ ?_ ?_).mono ?_
  · intro i hi
    rw [add0, hc]
    match i, hi with
    | 0, _ => rfl
    | 1, _ => rfl
  · intro h
    rcases hF _ h with h | h
    · have := (ha.blockGe _ h).2; simp at this; omega
    · have := (hb.blockGe _ h).2; simp at this; omega
  · intro i hi
    by_cases h0 : i = 0
    · subst h0; exact ⟨ha.below hbl, rfl, hla⟩
    · simp only [if_neg h0]; exact ⟨hb.below hbl, trivial, hlb⟩
  · intro i j g hi hj hij h1 h2
    by_cases h0 : i = 0
    · simp only [if_pos h0] at h1
      simp only [if_neg (show ¬ j = 0 by omega)] at h2
      exact hne g h1 h2
    · simp only [if_neg h0] at h1
      simp only [if_pos (show j = 0 by omega)] at h2
      exact hne g h2 h1
  · rintro e w' ⟨he, hk⟩
    exact ⟨he, hk.mono hF⟩
theorem use_kp {P : Program} {n : FuncId} {args : Array Value} {W0 W : World} {v : Value} {S : Nat → Prop} {R : Ending → World → Prop}
    (h : Calls P n args W (fun e w' => e = .returned v ∧ Kp S W0 w')) (k : ∀ w1, Hid (Kp S W0 w1) → R (.returned v) w1) : Calls P n args W R :=
  h.mono fun e w1 ⟨he, hb⟩ => by subst he; exact k w1 hb
end Go.Proofs.Ytehcimecmbcdfaa
