/- Arguments opened: slices of numbers. -/
import Derived.Test.YtehcimecmbcdfaaXRows
import Derived.ProofKit
import Derived.SizedLaws
import Derived.ChangeSlices
set_option linter.unusedSimpArgs false
set_option linter.unusedVariables false
namespace Go.Proofs.Ytehcimecmbcdfaa
open Go.ChangeShapes Go.WideShapes Go.RowKit

/-! bulk -/
theorem bulk_one {H : Type} (d : DataW H) : 1 ≤ Rows.uptoBulk d := by
  cases d with
  | lit l => cases l <;> simp [Rows.uptoBulk]
  | nil => simp [Rows.uptoBulk]
  | ptr d => simp [Rows.uptoBulk]
  | slice elems spare => simp [Rows.uptoBulk]
  | agg parts => simp [Rows.uptoBulk]
  | iface t d => simp [Rows.uptoBulk]
  | map entries => simp [Rows.uptoBulk]
  | held h => simp [Rows.uptoBulk]
theorem bulk_part {H : Type} {d : DataW H} {l : List (DataW H)} (h : d ∈ l) : Rows.uptoBulk d ≤ Rows.uptoBulkAll l := by
  induction l with
  | nil => cases h
  | cons x r ih =>
    simp only [Rows.uptoBulkAll]
    cases List.mem_cons.1 h with
    | inl e => subst e; omega
    | inr e => have := ih e; omega
theorem bulk_len {H : Type} (l : List (DataW H)) : l.length ≤ Rows.uptoBulkAll l := by
  induction l with
  | nil => simp [Rows.uptoBulkAll]
  | cons x r ih => have := bulk_one x; simp only [Rows.uptoBulkAll, List.length_cons]; omega
theorem bulk_slice {H : Type} (elems spare : List (DataW H)) : elems.length + 1 ≤ Rows.uptoBulk (.slice elems spare) := by
  have h1 := bulk_len elems
  simp only [Rows.uptoBulk]
  omega
theorem bulk_bound {H : Type} {l : List (DataW H)} (hk : Rows.uptoSmall H l = true) : Rows.uptoBulkAll l ≤ 1048576 := of_decide_eq_true hk
/-- A row's slice of whole numbers: what is read, and its size. -/
theorem open_nums {H : Type} {enc : TypeId × Value → H} {P : Program} {W : World} {base : Nat} {spare : Nat → Bool} {held : Bool} {r : Reach} {b0 : Nat} {t e : TypeId} {k : IntKind} {v : Value} {d : DataW H} {ps : List MemPlace} {ts : List TypeId} {ds : List (DataW H)} {j : Nat}
    (hsz : (DataW.weightsEach P ts ds).all (· ≤ reachBytes) = true) (ht : ts[j]? = some t) (hd : ds[j]? = some d) (hu : P.underlying t = some (.slice e)) (he : P.underlying e = some (.int k)) (hc : P.cellsOf e = 1) (B : Nat) (hB : P.bytesOf e = B)
    (hv : Value.okWide P W r b0 t v) (h : DataW.Trod enc P W base spare held t v d ps) (hp : 0 < B) :
    ∃ l, RdS W k v l ∧ (∀ n ∈ l, (Lit.int k n).wf = true) ∧ l.length * B ≤ 140737488351232 ∧ l.length ≤ Rows.uptoBulk d := by
  obtain ⟨a, len, cap, rfl⟩ := okWide_slice hu hv
  obtain ⟨fuel, hf⟩ := h
  rcases open_ints hu he hc hf with ⟨hcs, _⟩ | ⟨x, l, c, zs, hcs, _, hl, hm, hz, hx, hcell, hwz⟩
  · simp [Value.cells] at hcs
    obtain ⟨rfl, rfl, rfl⟩ := hcs
    exact ⟨[], RdS.nil _ _, by simp, by simp, by simp⟩
  · simp [Value.cells] at hcs
    obtain ⟨rfl, rfl, rfl⟩ := hcs
    obtain ⟨hx, _⟩ := Prod.mk.inj hx
    subst hx
    have z := sized_slice hsz ht hd hu
    rw [hB] at z
    have hl2 : len ≤ zs.length := by
      rw [hz]
      split
      · exact hl
      · exact Nat.le_refl _
    have h1 : (lits (H := H) k (zs.take len)).length + (lits (H := H) k (zs.drop len)).length = zs.length := by
      simp [lits]
      omega
    rw [h1] at z
    have z2 := Nat.le_trans (Nat.mul_le_mul_right B hl2) z
    have hlen : (zs.take len).length = len := by rw [List.length_take]; omega
    have z3 : len ≤ 140737488351232 := Nat.le_trans (Nat.le_mul_of_pos_right _ hp) z2
    refine ⟨zs.take len, ⟨some x, cap, by rw [hlen], by rw [hlen]; exact hl, (fun h => by cases h), by omega, fun _ => ⟨x, rfl, fun i hi => ?_⟩⟩, fun n hn => hwz n (List.mem_of_mem_take hn), by rw [hlen]; exact z2, ?_⟩
    · rw [hcell i (by omega)]
      simp [List.getD_eq_getElem?_getD, List.getElem?_take, show i < len by omega]
    · have h5 := bulk_slice (lits (H := H) k (zs.take len)) (lits (H := H) k (zs.drop len))
      have h6 : (lits (H := H) k (zs.take len)).length = len := by simp [lits]; omega
      omega
theorem byt_wf {l : List Int} (h : ∀ n ∈ l, (Lit.int .u8 n).wf = true) : ∀ c ∈ l, 0 ≤ c ∧ c ≤ 255 := by
  intro c hc
  have := h c hc
  simp [Lit.wf, IntKind.min, IntKind.max, IntKind.bits, IntKind.signed] at this
  omega
end Go.Proofs.Ytehcimecmbcdfaa
