/- Arguments opened: slices of structs of two whole numbers. -/
import Derived.Test.YtehcimecmbcdfaaXLaw01d
import Derived.Test.YtehcimecmbcdfaaXOpen
import Derived.Deep.SlicePairs
set_option linter.unusedSimpArgs false
set_option linter.unusedVariables false
namespace Go.Proofs.Ytehcimecmbcdfaa
open Go.ChangeShapes Go.WideShapes Go.RowKit

theorem open_steps {H : Type} {enc : TypeId × Value → H} {P : Program} {W : World} {base : Nat} {held : Bool} {r : Reach} {b0 : Nat} {t e : TypeId} {f0 f1 : Field} {v : Value} {d : DataW H} {ps : List MemPlace}
    (hu : P.underlying t = some (.slice e)) (he : P.underlying e = some (.struct #[f0, f1])) (ce : P.cellsOf e = 2) (o0 : f0.offset = 0) (o1 : f1.offset = 1) (c0 : P.cellsOf f0.type = 1) (c1 : P.cellsOf f1.type = 1)
    (u0 : P.underlying f0.type = some (.int .i64)) (u1 : P.underlying f1.type = some (.int .i64))
    (hv : Value.okWide P W r b0 t v) (h : DataW.Trod enc P W base (fun _ => true) held t v d ps) :
    ∃ B st c, v = .slice B st.length c ∧ RdSt W B st ∧ ∀ p ∈ st, (Lit.int .i64 p.2).wf = true := by
  obtain ⟨a, len, cap, rfl⟩ := okWide_slice hu hv
  obtain ⟨fuel, hf⟩ := h
  rcases Go.Deep.open_slice_pairs hu he ce o0 o1 c0 c1 hf with ⟨hcs, _⟩ | ⟨x, l, c, m, n, V0, V1, D0, D1, P0, P1, hcs, _, hl, hm, hmm, _, hc⟩
  · simp [Value.cells] at hcs
    obtain ⟨rfl, rfl, rfl⟩ := hcs
    exact ⟨none, [], 0, rfl, ⟨by simp, fun h => by simp at h⟩, by simp⟩
  · simp [Value.cells] at hcs
    obtain ⟨rfl, rfl, rfl⟩ := hcs
    have hlm : len ≤ m := by rw [hmm]; split <;> omega
    have each : ∀ i, i < len → ∃ q : Int × Int, V0 i = .int .i64 q.1 ∧ V1 i = .int .i64 q.2 ∧ (Lit.int .i64 q.2).wf = true := by
      intro i hi
      obtain ⟨_, _, g0, g1⟩ := hc i (by omega)
      obtain ⟨n0, e0, _, _⟩ := DataW.trod_int u0 g0
      obtain ⟨n1, e1, _, w1⟩ := DataW.trod_int u1 g1
      exact ⟨(n0, n1), by simpa using e0, by simpa using e1, w1⟩
    obtain ⟨q, hq⟩ := Go.Deep.choose_lt each
    refine ⟨some x, (List.range len).map q, cap, by simp, ⟨by simp only [List.length_map, List.length_range]; simp only [maxLen] at hm; omega, fun _ => ⟨x, rfl, fun j hj => ?_⟩⟩, fun p hp => ?_⟩
    · have hj' : j < len := by simpa using hj
      obtain ⟨k0, k1, _⟩ := hc j (by omega)
      obtain ⟨q0, q1, _⟩ := hq j hj'
      have hget : ((List.range len).map q).getD j (0, 0) = q j := by simp [List.getD_eq_getElem?_getD, hj']
      rw [hget, Go.Deep.add_add, k0, k1, q0, q1]
      exact ⟨rfl, rfl⟩
    · obtain ⟨i, hi, rfl⟩ := List.mem_map.1 hp
      exact (hq i (List.mem_range.1 hi)).2.2
end Go.Proofs.Ytehcimecmbcdfaa
