/- Arguments opened: slices of numbers. -/
import Derived.Test.YtehcimecmbcdfaaXRows
import Derived.ProofKit
import Derived.SizedLaws
import Derived.ChangeSlices
set_option linter.unusedSimpArgs false
set_option linter.unusedVariables false
namespace Go.Proofs.Ytehcimecmbcdfaa
open Go.ChangeShapes Go.WideShapes Go.RowKit

/-- A row's slice of whole numbers: what is read, and its size. -/
theorem open_nums {H : Type} {enc : TypeId × Value → H} {P : Program} {W : World} {base : Nat} {spare : Nat → Bool} {held : Bool} {r : Reach} {b0 : Nat} {t e : TypeId} {k : IntKind} {v : Value} {d : DataW H} {ps : List MemPlace} {ts : List TypeId} {ds : List (DataW H)} {j : Nat}
    (hsz : (DataW.weightsEach P ts ds).all (· ≤ reachBytes) = true) (ht : ts[j]? = some t) (hd : ds[j]? = some d) (hu : P.underlying t = some (.slice e)) (he : P.underlying e = some (.int k)) (hc : P.cellsOf e = 1) (B : Nat) (hB : P.bytesOf e = B)
    (hv : Value.okWide P W r b0 t v) (h : DataW.Trod enc P W base spare held t v d ps) (hp : 0 < B) :
    ∃ l, RdS W k v l ∧ (∀ n ∈ l, (Lit.int k n).wf = true) ∧ l.length * B ≤ 140737488351232 := by
  obtain ⟨a, len, cap, rfl⟩ := okWide_slice hu hv
  obtain ⟨fuel, hf⟩ := h
  rcases open_ints hu he hc hf with ⟨hcs, _⟩ | ⟨x, l, c, zs, hcs, _, hl, hm, hz, hx, hcell, hwz⟩
  · simp [Value.cells] at hcs
    obtain ⟨rfl, rfl, rfl⟩ := hcs
    exact ⟨[], RdS.nil _ _, by simp, by simp⟩
  · simp [Value.cells] at hcs
    obtain ⟨rfl, rfl, rfl⟩ := hcs
    obtain ⟨hx, _⟩ := Prod.mk.inj hx
    subst hx
    have z := sized_slice hsz ht hd hu
    rw [hB] at z
    have hl2 : len ≤ zs.length := by
      rw [hz]
      split
      · exact hl
      · exact Nat.le_refl _
    have h1 : (lits (H := H) k (zs.take len)).length + (lits (H := H) k (zs.drop len)).length = zs.length := by
      simp [lits]
      omega
    rw [h1] at z
    have z2 := Nat.le_trans (Nat.mul_le_mul_right B hl2) z
    have hlen : (zs.take len).length = len := by rw [List.length_take]; omega
    have z3 : len ≤ 140737488351232 := Nat.le_trans (Nat.le_mul_of_pos_right _ hp) z2
    refine ⟨zs.take len, ⟨some x, cap, by rw [hlen], by rw [hlen]; exact hl, (fun h => by cases h), by omega, fun _ => ⟨x, rfl, fun i hi => ?_⟩⟩, fun n hn => hwz n (List.mem_of_mem_take hn), by rw [hlen]; exact z2⟩
    rw [hcell i (by omega)]
    simp [List.getD_eq_getElem?_getD, List.getElem?_take, show i < len by omega]
theorem byt_wf {l : List Int} (h : ∀ n ∈ l, (Lit.int .u8 n).wf = true) : ∀ c ∈ l, 0 ≤ c ∧ c ≤ 255 := by
  intro c hc
  have := h c hc
  simp [Lit.wf, IntKind.min, IntKind.max, IntKind.bits, IntKind.signed] at this
  omega
end Go.Proofs.Ytehcimecmbcdfaa
