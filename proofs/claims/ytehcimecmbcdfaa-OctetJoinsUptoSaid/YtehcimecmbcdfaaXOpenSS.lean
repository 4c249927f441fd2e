/- Arguments opened: slices of slices of numbers. -/
import Derived.Test.YtehcimecmbcdfaaXOpen
import Derived.Test.YtehcimecmbcdfaaXJoin
import Derived.Deep.Matrix
set_option linter.unusedSimpArgs false
set_option linter.unusedVariables false
namespace Go.Proofs.Ytehcimecmbcdfaa
open Go.ChangeShapes Go.WideShapes Go.RowKit

theorem bulk_flat {H : Type} (f : Nat → DataW H) (h : Nat → List Int) : ∀ l : List Nat, (∀ x ∈ l, (h x).length ≤ Rows.uptoBulk (f x)) → (l.map h).flatten.length ≤ Rows.uptoBulkAll (l.map f)
  | [], _ => by simp [Rows.uptoBulkAll]
  | x :: t, hx => by
    have h1 := hx x (by simp)
    have h2 := bulk_flat f h t (fun y hy => hx y (by simp [hy]))
    simp only [List.map_cons, List.flatten_cons, List.length_append, Rows.uptoBulkAll]
    omega
theorem bulk_row {H : Type} (k : IntKind) (A : Option Addr) (L : Nat) (zs : List Int) (hA : A = none → L = 0) (hL : L ≤ zs.length) : L ≤ Rows.uptoBulk (Go.Deep.intRow (H := H) k A L zs) := by
  cases A with
  | none => rw [hA rfl]; omega
  | some a =>
    have h1 := bulk_slice (H := H) (lits k (zs.take L)) (lits k (zs.drop L))
    have h2 : (lits (H := H) k (zs.take L)).length = L := by simp [lits]; omega
    rw [h2] at h1
    simp only [Go.Deep.intRow]
    omega
theorem open_bytess {H : Type} {enc : TypeId × Value → H} {P : Program} {W : World} {base : Nat} {held : Bool} {r : Reach} {b0 : Nat} {t e q : TypeId} {v : Value} {d : DataW H} {ps : List MemPlace}
    (hu : P.underlying t = some (.slice e)) (he : P.underlying e = some (.slice q)) (hq : P.underlying q = some (.int .u8)) (ce : P.cellsOf e = 1) (cq : P.cellsOf q = 1)
    (hv : Value.okWide P W r b0 t v) (h : DataW.Trod enc P W base (fun _ => true) held t v d ps) :
    ∃ ls, RdSS W v ls ∧ ls.flatten.length ≤ Rows.uptoBulk d ∧ ls.length ≤ Rows.uptoBulk d := by
  obtain ⟨a, len, cap, rfl⟩ := okWide_slice hu hv
  obtain ⟨fuel, hf⟩ := h
  rcases Go.Deep.open_int_rows hu he hq ce cq hf with ⟨hcs, _⟩ | ⟨x, l, c, A, L, C, Z, hcs, _, hl, hm, hx, hr⟩
  · simp [Value.cells] at hcs
    obtain ⟨rfl, rfl, rfl⟩ := hcs
    exact ⟨[], ⟨none, 0, rfl, Nat.le_refl _, by simp, fun _ => rfl, fun j hj => by simp at hj⟩, by simp, by simp⟩
  · simp [Value.cells] at hcs
    obtain ⟨rfl, rfl, rfl⟩ := hcs
    obtain ⟨hx, _⟩ := Prod.mk.inj hx
    subst hx
    have hbs := bulk_slice ((List.range len).map fun r => Go.Deep.intRow (H := H) .u8 (A r) (L r) (Z r)) ((List.range (cap - len)).map fun j => Go.Deep.intRow (H := H) .u8 (A (len + j)) (L (len + j)) (Z (len + j)))
    refine ⟨(List.range len).map fun r => (Z r).take (L r), ⟨some x, cap, by simp, by simpa using hl, by simp only [maxLen] at hm; simp; omega, (fun h => by cases h), fun j hj => ?_⟩, ?_, ?_⟩
    · have hj' : j < len := by simpa using hj
      obtain ⟨c1, c2, c3, c4, c5, c6, c7⟩ := hr j (by omega)
      have hget : ((List.range len).map fun r => (Z r).take (L r)).getD j [] = (Z j).take (L j) := by simp [List.getD_eq_getElem?_getD, hj']
      have hlen : ((Z j).take (L j)).length = L j := by rw [List.length_take]; omega
      rw [hget]
      refine ⟨x, _, rfl, c1, ⟨A j, C j, by rw [hlen], by rw [hlen]; exact c2, c6, by simp only [maxLen] at c3; omega, fun hn => ?_⟩⟩
      rw [hlen] at hn
      cases hA : A j with
      | none => have := c6 hA; omega
      | some a' =>
        refine ⟨a', rfl, fun i hi => ?_⟩
        rw [hlen] at hi
        rw [(c7 a' hA).2 i (by omega)]
        simp [List.getD_eq_getElem?_getD, List.getElem?_take, hi]
    · have h1 := bulk_flat (H := H) (fun r => Go.Deep.intRow .u8 (A r) (L r) (Z r)) (fun r => (Z r).take (L r)) (List.range len) (fun r hr' => by
        have hr2 := List.mem_range.1 hr'
        obtain ⟨c1, c2, c3, c4, c5, c6, c7⟩ := hr r (by omega)
        rw [List.length_take]
        exact Nat.le_trans (Nat.min_le_left _ _) (bulk_row _ _ _ _ (fun h => by have := c6 h; omega) (by omega)))
      simp only [Rows.uptoBulk]
      omega
    · simp only [List.length_map, List.length_range] at hbs ⊢
      omega
end Go.Proofs.Ytehcimecmbcdfaa
