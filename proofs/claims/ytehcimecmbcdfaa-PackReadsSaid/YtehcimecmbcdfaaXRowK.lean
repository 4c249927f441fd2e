/- Rows of instructions: an append that keeps the old slice; a store of an instruction. -/
import Derived.Test.YtehcimecmbcdfaaXRowN
import Derived.Test.YtehcimecmbcdfaaXRowV
set_option linter.unusedSimpArgs false
set_option linter.unusedVariables false
namespace Go.Proofs.Ytehcimecmbcdfaa
open Go.RowKit

/-- append(s, y): what the old slice shows stays -/
theorem run_keepN {P : Program} {W : World} (base : Nat) (t ty : TypeId) (z : Value) (bytes : Nat)
    (ht : P.underlying t = some (.slice 92)) (hinfo : (P.info? 92).map (fun i => (i.zero, i.size, i.bytes)) = some (some z, 6, bytes)) (hz : z.cells.size = 6) (hb0 : 0 < bytes)
    (v : Value) (l : List Ins) (y : Ins) (ad : Addr) (hc : ∀ j u, (flatC [y])[j]? = some u → W.cell? (ad.add j) = some u)
    (HO : OwN W base v l) (hbase : base ≤ W.heap.size) (hl : (l.length + 1) * bytes ≤ 140737488355328) :
    ∃ A1 c1 w1, (Builtin.append_ #[t, t] ty #[v, .slice (some ad) 1 1]).run P W = .ok (.slice A1 (l.length + 1) c1) w1 ∧ OwN w1 base (.slice A1 (l.length + 1) c1) (l ++ [y]) ∧ W.grownBy w1 v.ownBlock ∧
      ((Value.slice A1 (l.length + 1) c1).ownBlock = v.ownBlock ∨ ∃ b, (Value.slice A1 (l.length + 1) c1).ownBlock = some b ∧ W.heap.size ≤ b) ∧ (∀ g j u, v.ownBlock = some g → (flatC l)[j]? = some u → w1.cell? ⟨g, j, none⟩ = some u) := by
  obtain ⟨i0, hi, hz0, hz1, hz2⟩ := info_parts hinfo
  have hlen : l.length + 1 ≤ 140737488355328 := Nat.le_trans (Nat.le_mul_of_pos_right _ hb0) hl
  have h1c := flatC_one' [y]
  have push : ∀ {w' : World} {b : Nat} {v' : Value}, w'.ownsRow b 92 6 v' (l.length + 1) (flatC l ++ flatC [y]) → OwN w' b v' (l ++ [y]) := by
    intro w' b v' h
    show w'.ownsRow _ _ _ _ _ _
    rw [List.length_append, flatC_append]; exact h
  rcases HO.2 with ⟨rfl, h0⟩ | ⟨g, cap, cur, rfl, hbg, hg, hnc, hcm, hcs, htake⟩
  · obtain ⟨v', w', hr, h2, h3, _, h5⟩ := run_append_own_at (P := P) W base t ty 92 i0 z 6 bytes ht hi hz0 hz1 hz2 hz (by omega) (.slice none 0 0) l.length (flatC l) HO ad 1 1 (flatC [y]) (flatC_len [y]) hc h1c (by simp only [maxLen]; omega) hl hbase
    have ho := push h2
    obtain ⟨A1, c1, rfl⟩ := ho.form
    simp only [List.length_append, List.length_cons, List.length_nil, Nat.zero_add] at hr ho h5
    exact ⟨A1, c1, w', hr, ho, h3, h5.elim .inl fun h => .inr ⟨_, h, Nat.le_refl _⟩, fun g j u hg => by cases hg⟩
  · by_cases hroom : l.length + 1 ≤ cap
    · obtain ⟨w', hr, h2, h3⟩ := run_append_fits (P := P) W base t ty 92 i0 6 ht hi hz1 g l.length cap (flatC l) HO ad 1 1 (flatC [y]) (flatC_len [y]) hc h1c hroom
      have ho := push h2
      refine ⟨_, cap, w', hr, ho, h3, .inl rfl, fun g' j u hg' hj => ?_⟩
      obtain rfl : g = g' := by simpa [Value.ownBlock] using hg'
      refine OwN.cells ho j u ?_
      rw [flatC_append, List.getElem?_append_left (List.getElem?_eq_some_iff.1 hj).1]; exact hj
    · obtain ⟨v', w', hr, h2, h3⟩ := run_append_arg_grows (P := P) W t ty 92 i0 z 6 bytes ht hi hz0 hz1 hz2 hz (by omega) ⟨g, 0, none⟩ l.length cap (flatC l) (flatC_len l) (fun j u hu => World.ownsRow.cells (g := g) HO rfl j u hu) ad 1 1 (flatC [y]) (flatC_len [y]) hc (by omega) (by simp only [maxLen]; omega) hl
      have ho := push h2
      obtain ⟨A1, c1, rfl⟩ := ho.form
      simp only [List.length_append, List.length_cons, List.length_nil, Nat.zero_add] at hr ho
      have hAb : ∃ b, (Value.slice A1 (l.length + 1) c1).ownBlock = some b ∧ W.heap.size ≤ b := by
        rcases ho.2 with ⟨e0, h0⟩ | ⟨b, cap', cur', e0, hb, _⟩
        · simp at h0
        · rw [e0]; exact ⟨b, rfl, hb⟩
      refine ⟨A1, c1, w', hr, ho.lower hbase, ⟨h3.os, h3.tape, h3.output, h3.size, fun i hi _ => h3.block i hi (by simp)⟩, .inr hAb, fun g' j u hg' hj => ?_⟩
      obtain rfl : g = g' := by simpa [Value.ownBlock] using hg'
      have hc := OwN.cells HO j u hj
      rw [← hc]
      exact World.cell?_of_block (a := ⟨g, j, none⟩) (h3.block g (World.block_lt_of_cell? W ⟨g, j, none⟩ hc) (by simp))
theorem ap_keepN {P : Program} {ops : Array Oper} {rest : List Oper} {o : Oper} {a : Act} {Q : Exit → Act → World → Prop} {W : World} (base : Nat) (hgd : o.guard = none) (s x : Operand) (t : TypeId) (z : Value) (bytes : Nat)
    (ho : o.op = .call { callee := .builtin .append, args := #[s, x], argTypes := #[t, t] })
    (ht : P.underlying t = some (.slice 92)) (hinfo : (P.info? 92).map (fun i => (i.zero, i.size, i.bytes)) = some (some z, 6, bytes)) (hz : z.cells.size = 6) (hb0 : 0 < bytes)
    (v : Value) (l : List Ins) (y : Ins) (hs : a.eval s = v) (hx : a.eval x = .slice (some ⟨W.heap.size, 0, none⟩) 1 1)
    (HO : OwN W base v l) (hbase : base ≤ W.heap.size) (hl : (l.length + 1) * bytes ≤ 140737488355328)
    (N : Nat) (hN : l.length + 1 = N) (h : ∀ A1 c1 w1, Hid (OwN w1 base (.slice A1 N c1) (l ++ [y])) → Hid (W.grownBy w1 v.ownBlock) → Hid ((Value.slice A1 N c1).ownBlock = v.ownBlock ∨ ∃ b, (Value.slice A1 N c1).ownBlock = some b ∧ W.heap.size ≤ b) →
      Hid (∀ g j u, v.ownBlock = some g → (flatC l)[j]? = some u → w1.cell? ⟨g, j, none⟩ = some u) → wpList P ops Q rest (a.put o.dst (.slice A1 N c1)) w1) :
    wpList P ops Q (o :: rest) a (W.alloc (.cells y.cells 92)) := by
  subst hN
  obtain ⟨A1, c1, w1, hr, h2, h3, h4, h5⟩ := run_keepN (P := P) (W := W.alloc (.cells y.cells 92)) base t o.type z bytes ht hinfo hz hb0 v l y ⟨W.heap.size, 0, none⟩ (fun j u hu => by
    rw [add0]
    have := blk_cell (blk_new W (.cells y.cells 92)) j
    rw [flatC_one] at hu
    rw [this, ← hu]; simp) (HO.below (bl1 _)) (by simp; omega) hl
  refine wpList_plain hgd fun K hK => ?_
  unfold Oper.wp execOp
  simp only [ho, resolve, invoke, builtin, Sem.run_bind, Sem.run_pure, Result.andThen_ok, List.map_toArray, List.map_cons, List.map_nil, hs, hx, hr]
  refine hK _ _ (h A1 c1 w1 h2 (World.grownBy.trans (World.grownBy_alloc W _ _) h3) ?_ h5)
  rcases h4 with h4 | ⟨b, h4, h6⟩
  · exact .inl h4
  · exact .inr ⟨b, h4, by simp at h6; omega⟩
/-- the six cells of an instruction, stored -/
def put6 (w : World) (g j : Nat) (n : Ins) : World := (((((w.setCell ⟨g, j * 6, none⟩ (.int .i64 n.op)).setCell ⟨g, j * 6 + 1, none⟩ (.int .i64 n.a)).setCell ⟨g, j * 6 + 2, none⟩ (.int .i64 n.b)).setCell ⟨g, j * 6 + 3, none⟩ (.int .i64 n.c)).setCell ⟨g, j * 6 + 4, none⟩ (.int .i64 n.k)).setCell ⟨g, j * 6 + 5, none⟩ (.int .i64 n.s)
theorem put6_kp (w : World) (g j : Nat) (n : Ins) : Kp (· = g) w (put6 w g j n) :=
  ((((((Kp.refl (· = g) w).set (p := ⟨g, _, none⟩) rfl _).set (p := ⟨g, _, none⟩) rfl _).set (p := ⟨g, _, none⟩) rfl _).set (p := ⟨g, _, none⟩) rfl _).set (p := ⟨g, _, none⟩) rfl _).set (p := ⟨g, _, none⟩) rfl _
theorem flatC_set : ∀ (l : List Ins) (j : Nat) (n : Ins), j < l.length → flatC (l.set j n) = ((((((flatC l).set (j * 6) (.int .i64 n.op)).set (j * 6 + 1) (.int .i64 n.a)).set (j * 6 + 2) (.int .i64 n.b)).set (j * 6 + 3) (.int .i64 n.c)).set (j * 6 + 4) (.int .i64 n.k)).set (j * 6 + 5) (.int .i64 n.s)
  | [], j, n, h => by simp at h
  | m :: l, 0, n, _ => by simp [flatC_cons, Ins.cells]
  | m :: l, j + 1, n, h => by
    have ih := flatC_set l j n (by simpa using h)
    rw [List.set_cons_succ, flatC_cons, flatC_cons, ih]
    simp only [Ins.cells, show (j + 1) * 6 = j * 6 + 6 by omega, show j * 6 + 6 + 1 = j * 6 + 1 + 6 by omega, show j * 6 + 6 + 2 = j * 6 + 2 + 6 by omega, show j * 6 + 6 + 3 = j * 6 + 3 + 6 by omega, show j * 6 + 6 + 4 = j * 6 + 4 + 6 by omega, show j * 6 + 6 + 5 = j * 6 + 5 + 6 by omega]
    rfl
theorem OwN.put {w : World} {base g : Nat} {n c : Nat} {l : List Ins} (h : OwN w base (.slice (some ⟨g, 0, none⟩) n c) l) (j : Nat) (y : Ins) (hj : j < l.length) : OwN (put6 w g j y) base (.slice (some ⟨g, 0, none⟩) n c) (l.set j y) := by
  obtain ⟨h1, h2⟩ := h
  rcases h2 with ⟨h2, _⟩ | ⟨g', cap, cur, hv, a, hh, b1, b2, b3, b4⟩
  · cases h2
  · injection hv with e1 e2 e3
    injection e1 with e1
    injection e1 with e1 _
    subst e1
    refine ⟨by rw [flatC_len, List.length_set], .inr ⟨g, cap, _, by rw [List.length_set, e2, e3], a, blk_set (blk_set (blk_set (blk_set (blk_set (blk_set hh _ _) _ _) _ _) _ _) _ _) _ _, by simpa using b1, b2, by simpa using b3, ?_⟩⟩
    simp only [Array.toList_setIfInBounds, List.length_set]
    rw [flatC_set l j y hj, ← b4]
    simp only [List.take_set]
end Go.Proofs.Ytehcimecmbcdfaa
