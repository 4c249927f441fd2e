/- Arguments opened: a code. -/
import Derived.Test.YtehcimecmbcdfaaXHeldN
import Derived.ProofKit
import Derived.SizedLaws
import Derived.ChangeSlices
import Derived.Deep.SlicePairs
set_option linter.unusedSimpArgs false
set_option linter.unusedVariables false
namespace Go.Proofs.Ytehcimecmbcdfaa
open Go.ChangeShapes Go.WideShapes Go.RowKit

def fI (P : Program) (f : Field) (o : Nat) : Prop := f.offset = o ∧ P.cellsOf f.type = 1 ∧ P.underlying f.type = some (.int .i64)
theorem lit_in64 {n : Int} (h : (Lit.int .i64 n).wf = true) : In64 n := by
  simp [Lit.wf, IntKind.min, IntKind.max, IntKind.bits, IntKind.signed] at h; unfold In64; omega
/-- a slice of instructions that came in -/
theorem open_insts {H : Type} {enc : TypeId × Value → H} {P : Program} {W : World} {base : Nat} {spare : Nat → Bool} {held : Bool} {t e : TypeId} {f0 f1 f2 f3 f4 f5 : Field} {fuel : Nat} {v : Value} {y : DataW H × List MemPlace}
    (hu : P.underlying t = some (.slice e)) (he : P.underlying e = some (.struct #[f0, f1, f2, f3, f4, f5])) (ce : P.cellsOf e = 6)
    (h0 : fI P f0 0) (h1 : fI P f1 1) (h2 : fI P f2 2) (h3 : fI P f3 3) (h4 : fI P f4 4) (h5 : fI P f5 5)
    (h : DataW.trod enc P W base spare held fuel t [v] = some y) :
    ∃ A c l, v = .slice A l.length c ∧ RdNS W v l ∧ wfL l ∧ (y.1 = .nil ∧ l = [] ∨ ∃ el sp, y.1 = .slice el sp ∧ el.length = l.length) := by
  rcases Go.Deep.open_slice hu h with ⟨hcs, hx⟩ | ⟨a, len, cap, m, n, D, Pl, hcs, hb, hl, hm, hmm, hx, hc⟩
  · injection hcs with e1
    subst e1
    exact ⟨none, 0, [], rfl, ⟨none, 0, rfl, Nat.le_refl _, fun _ => rfl, by simp, fun h => by simp at h⟩, (fun n hn => by simp at hn), .inl ⟨by rw [hx], rfl⟩⟩
  · injection hcs with e1
    subst e1
    have hlm : len ≤ m := by rw [hmm]; split <;> omega
    have each : ∀ i, i < len → ∃ q : Ins, q.wf ∧ ∀ j, j < 6 → W.cell? ((a.add (i * 6)).add j) = some (q.cells.getD j (.int .i64 0)) := by
      intro i hi
      obtain ⟨cs', g1, g2⟩ := hc i (by omega)
      rw [ce] at g1
      obtain ⟨_, hlen, hcell⟩ := World.cells?_some g1
      obtain ⟨xs, k, hk, hxy, _, hxl, hf⟩ := DataW.trod_struct he g2
      match xs, hxl, cs', hlen with
      | [y0, y1, y2, y3, y4, y5], _, [v0, v1, v2, v3, v4, v5], _ =>
        have k0 := hf 0 f0 rfl
        have k1 := hf 1 f1 rfl
        have k2 := hf 2 f2 rfl
        have k3 := hf 3 f3 rfl
        have k4 := hf 4 f4 rfl
        have k5 := hf 5 f5 rfl
        simp [h0.1, h1.1, h2.1, h3.1, h4.1, h5.1, h0.2.1, h1.2.1, h2.2.1, h3.2.1, h4.2.1, h5.2.1] at k0 k1 k2 k3 k4 k5
        obtain ⟨n0, e0, _, w0⟩ := DataW.trod_int h0.2.2 k0
        obtain ⟨n1, e1, _, w1⟩ := DataW.trod_int h1.2.2 k1
        obtain ⟨n2, e2, _, w2⟩ := DataW.trod_int h2.2.2 k2
        obtain ⟨n3, e3, _, w3⟩ := DataW.trod_int h3.2.2 k3
        obtain ⟨n4, e4, _, w4⟩ := DataW.trod_int h4.2.2 k4
        obtain ⟨n5, e5, _, w5⟩ := DataW.trod_int h5.2.2 k5
        injection e0 with e0; injection e1 with e1; injection e2 with e2; injection e3 with e3; injection e4 with e4; injection e5 with e5
        subst e0 e1 e2 e3 e4 e5
        refine ⟨⟨n0, n1, n2, n3, n4, n5⟩, ⟨lit_in64 w0, lit_in64 w1, lit_in64 w2, lit_in64 w3, lit_in64 w4, lit_in64 w5⟩, fun j hj => ?_⟩
        rw [hcell j hj]
        have : j = 0 ∨ j = 1 ∨ j = 2 ∨ j = 3 ∨ j = 4 ∨ j = 5 := by omega
        rcases this with rfl | rfl | rfl | rfl | rfl | rfl <;> rfl
    haveI : Inhabited Ins := ⟨zIns⟩
    obtain ⟨q, hq⟩ := Go.Deep.choose_lt each
    have hll : ((List.range len).map q).length = len := by simp
    refine ⟨some a, cap, (List.range len).map q, by rw [hll], ⟨some a, cap, by rw [hll], by rw [hll]; exact hl, (fun h => by cases h), by rw [hll]; simp only [maxLen] at hm; omega, fun _ => ⟨a, rfl, fun j hj i hi => ?_⟩⟩, fun n hn => ?_, .inr ⟨(List.range len).map D, _, by rw [hx], by simp⟩⟩
    · rw [hll] at hj
      rw [(hq j hj).2 i hi]
      simp [List.getD_eq_getElem?_getD, hj]
    · obtain ⟨i, hi, rfl⟩ := List.mem_map.1 hn
      exact (hq i (List.mem_range.1 hi)).1
set_option maxRecDepth 20000 in
/-- a code that came in -/
theorem open_code {H : Type} {enc : TypeId × Value → H} {W : World} {base : Nat} {spare : Nat → Bool} {held : Bool} {r : Reach} {b0 : Nat} {v : Value} {d : DataW H} {ps : List MemPlace} {ts : List TypeId} {ds : List (DataW H)} {j : Nat}
    (hsz : (DataW.weightsEach Try.prog ts ds).all (· ≤ reachBytes) = true) (ht : ts[j]? = some 64) (hd : ds[j]? = some d)
    (hv : Value.okWide Try.prog W r b0 64 v) (h : DataW.Trod enc Try.prog W base spare held 64 v d ps) :
    ∃ f dd A c l out, v = .agg #[.int .i64 f, .int .i64 dd, .slice A l.length c, .int .i64 out] ∧ RdNS W (.slice A l.length c) l ∧ wfL l ∧ l.length * 48 ≤ 140737488351232 ∧ In64 out ∧ In64 f ∧ In64 dd := by
  obtain ⟨cs, rfl, hcs⟩ := okWide_struct Try.underlying64 hv
  have h4 : Try.prog.cellsOf 64 = 4 := by kernel_rfl
  rw [h4] at hcs
  obtain ⟨c0, c1, c2, c3, rfl⟩ : ∃ a b c d, cs = #[a, b, c, d] := by
    match cs, hcs with
    | ⟨[a, b, c, d]⟩, _ => exact ⟨a, b, c, d, rfl⟩
  obtain ⟨fuel, hf⟩ := h
  obtain ⟨y0, y1, y2, n, hx, k0, k1, k2⟩ : ∃ y0 y1 y2 n, (d, ps) = (.agg [y0.1, y1.1, y2.1], y0.2 ++ (y1.2 ++ y2.2)) ∧ DataW.trod enc Try.prog W base spare held n 23 (([c0, c1, c2, c3].drop 0).take (Try.prog.cellsOf 23)) = some y0 ∧
      DataW.trod enc Try.prog W base spare held n 62 (([c0, c1, c2, c3].drop 2).take (Try.prog.cellsOf 62)) = some y1 ∧ DataW.trod enc Try.prog W base spare held n 3 (([c0, c1, c2, c3].drop 3).take (Try.prog.cellsOf 3)) = some y2 := by
    obtain ⟨xs, n, _, hx, hl, hlen, hf⟩ := DataW.trod_struct Try.underlying64 hf
    match xs, hlen with
    | [y0, y1, y2], _ => exact ⟨y0, y1, y2, n, by simpa using hx, hf 0 _ rfl, hf 1 _ rfl, hf 2 _ rfl⟩
  have e0 : Try.prog.cellsOf 23 = 2 := by kernel_rfl
  have e1 : Try.prog.cellsOf 62 = 1 := by kernel_rfl
  have e2 : Try.prog.cellsOf 3 = 1 := by kernel_rfl
  simp [Value.cells, e0, e1, e2] at k0 k1 k2
  obtain ⟨xs, kk, _, _, _, hxl, hff⟩ := DataW.trod_struct Try.underlying23 k0
  match xs, hxl with
  | [z0, z1], _ =>
    have g0 := hff 0 _ rfl
    have g1 := hff 1 _ rfl
    simp [e2] at g0 g1
    obtain ⟨f, q0, _, w0⟩ := DataW.trod_int Try.underlying3 g0
    obtain ⟨dd, q1, _, w1⟩ := DataW.trod_int Try.underlying3 g1
    obtain ⟨out, q2, _, w2⟩ := DataW.trod_int Try.underlying3 k2
    injection q0 with q0; injection q1 with q1; injection q2 with q2
    subst q0 q1 q2
    obtain ⟨A, c, l, rfl, hr, hw, hy⟩ := open_insts Try.underlying62 Try.underlying92 (by kernel_rfl) ⟨rfl, by kernel_rfl, Try.underlying3⟩ ⟨rfl, by kernel_rfl, Try.underlying3⟩ ⟨rfl, by kernel_rfl, Try.underlying3⟩ ⟨rfl, by kernel_rfl, Try.underlying3⟩ ⟨rfl, by kernel_rfl, Try.underlying3⟩ ⟨rfl, by kernel_rfl, Try.underlying3⟩ k1
    refine ⟨f, dd, A, c, l, out, rfl, hr, hw, ?_, lit_in64 w2, lit_in64 w0, lit_in64 w1⟩
    rcases hy with ⟨_, rfl⟩ | ⟨el, sp, he, hel⟩
    · simp
    · have hd1 : d = .agg [y0.1, y1.1, y2.1] := by have := congrArg Prod.fst hx; simpa using this
      have hb : Try.prog.bytesOf 92 = 48 := by kernel_rfl
      have hm : (el.length + sp.length) * 48 ∈ DataW.weights Try.prog 64 d := by
        rw [hd1, DataW.weights, Try.underlying64]
        simp only [Array.toList, List.map_cons, List.map_nil]
        refine DataW.weights_mem_each (j := 1) rfl rfl _ ?_
        rw [he, DataW.weights, Try.underlying62, ← hb]
        exact List.mem_cons_self
      have := List.all_eq_true.1 hsz _ (DataW.weights_mem_each ht hd _ hm)
      have hrb : reachBytes = 140737488351232 := by decide
      rw [hel, hrb] at this
      have := of_decide_eq_true this
      have h9 : l.length * 48 ≤ (l.length + sp.length) * 48 := Nat.mul_le_mul_right _ (Nat.le_add_right _ _)
      omega
end Go.Proofs.Ytehcimecmbcdfaa
