/- Rows of instructions of the call's own (six cells an element). -/
import Derived.Test.YtehcimecmbcdfaaXPackS
set_option linter.unusedSimpArgs false
set_option linter.unusedVariables false
namespace Go.Proofs.Ytehcimecmbcdfaa
open Go.RowKit

theorem info_ins : (Try.prog.info? 92).map (fun i => (i.zero, i.size, i.bytes)) = some (some (.agg #[.int .i64 0, .int .i64 0, .int .i64 0, .int .i64 0, .int .i64 0, .int .i64 0]), 6, 48) := by kernel_rfl
def flatC (l : List Ins) : List Value := l.flatMap fun n => n.cells.toList
theorem flatC_nil : flatC [] = [] := rfl
theorem flatC_cons (n : Ins) (l : List Ins) : flatC (n :: l) = n.cells.toList ++ flatC l := rfl
theorem flatC_append (l m : List Ins) : flatC (l ++ m) = flatC l ++ flatC m := by unfold flatC; rw [List.flatMap_append]
theorem flatC_one (n : Ins) : flatC [n] = n.cells.toList := by simp [flatC]
theorem flatC_len : ∀ l : List Ins, (flatC l).length = l.length * 6
  | [] => rfl
  | n :: l => by rw [flatC_cons, List.length_append, flatC_len l, List.length_cons, Nat.succ_mul, Nat.add_comm]; rfl
theorem flatC_get : ∀ (l : List Ins) (j i : Nat), j < l.length → i < 6 → (flatC l)[j * 6 + i]? = some ((l.getD j zIns).cells.getD i (.int .i64 0))
  | [], j, i, h, _ => by simp at h
  | n :: l, 0, i, _, hi => by
    rw [flatC_cons, List.getElem?_append_left (by simp [Ins.cells]; omega)]
    have : i = 0 ∨ i = 1 ∨ i = 2 ∨ i = 3 ∨ i = 4 ∨ i = 5 := by omega
    rcases this with rfl | rfl | rfl | rfl | rfl | rfl <;> rfl
  | n :: l, j + 1, i, h, hi => by
    rw [flatC_cons, List.getElem?_append_right (by simp [Ins.cells]; omega)]
    have h1 := flatC_get l j i (by simpa using h) hi
    have e : (j + 1) * 6 + i - n.cells.toList.length = j * 6 + i := by simp [Ins.cells]; omega
    rw [e, h1]
    simp [List.getD_eq_getElem?_getD]
theorem cells_one (n : Ins) (i : Nat) (u : Value) (h : n.cells.toList[i]? = some u) : u.oneCell' = true := by
  have hi : i < 6 := by have := (List.getElem?_eq_some_iff.1 h).1; simpa [Ins.cells] using this
  have : i = 0 ∨ i = 1 ∨ i = 2 ∨ i = 3 ∨ i = 4 ∨ i = 5 := by omega
  rcases this with rfl | rfl | rfl | rfl | rfl | rfl <;> (simp [Ins.cells] at h; subst h; rfl)
theorem flatC_one' (l : List Ins) : ∀ u ∈ flatC l, u.oneCell' = true := by
  intro u hu
  unfold flatC at hu
  obtain ⟨n, _, hn⟩ := List.mem_flatMap.1 hu
  obtain ⟨i, hi⟩ := List.getElem?_of_mem hn
  exact cells_one n i u hi
theorem add_add (ad : Addr) (q r : Nat) : (ad.add q).add r = ad.add (q + r) := by
  unfold Addr.add
  by_cases h1 : q = 0 <;> by_cases h2 : r = 0 <;> simp [h1, h2, Nat.add_assoc]
/-- a slice of instructions that is read -/
def RdNS (w : World) (v : Value) (l : List Ins) : Prop := ∃ A c, v = .slice A l.length c ∧ l.length ≤ c ∧ (A = none → c = 0) ∧ RdN w A l
theorem RdNS.below {w w1 : World} {v : Value} {l : List Ins} (h : RdNS w v l) (hb : Below w.heap.size w w1) : RdNS w1 v l := by
  obtain ⟨A, c, h1, h2, h3, h4⟩ := h
  exact ⟨A, c, h1, h2, h3, h4.below hb⟩
theorem RdNS.kp {S : Nat → Prop} {w w1 : World} {v : Value} {l : List Ins} (h : RdNS w v l) (hk : Kp S w w1) (hs : ∀ g, v.ownBlock = some g → ¬ S g) : RdNS w1 v l := by
  obtain ⟨A, c, rfl, h2, h3, h4⟩ := h
  exact ⟨A, c, rfl, h2, h3, h4.kp hk (fun ad e => hs _ (by rw [e]; rfl))⟩
theorem RdNS.far {w w1 : World} {v : Value} {l : List Ins} {ub : Option Nat} (h : RdNS w v l) (hg : w.grownBy w1 ub) (hne : ∀ g, v.ownBlock = some g → ub ≠ some g) : RdNS w1 v l :=
  h.kp (S := fun g => ub = some g) ⟨hg.os, hg.tape, hg.output, hg.size, fun i hi hn => hg.block i hi (fun e => hn e.symm)⟩ hne
theorem RdNS.far_num {w w1 : World} {l : List Ins} {g g' n c n' c' : Nat} (h : RdNS w (.slice (some ⟨g, 0, none⟩) n c) l) (hg : w.grownBy w1 (Value.slice (some ⟨g', 0, none⟩) n' c').ownBlock) (hne : g' ≠ g) : RdNS w1 (.slice (some ⟨g, 0, none⟩) n c) l :=
  h.far hg (fun b hb e => by simp only [Value.ownBlock, Option.some.injEq] at hb e; omega)
/-- a row of instructions of the call's own -/
def OwN (w : World) (base : Nat) (v : Value) (l : List Ins) : Prop := w.ownsRow base 92 6 v l.length (flatC l)
theorem OwN.nil (w : World) (base : Nat) : OwN w base (.slice none 0 0) [] := ⟨by simp [flatC], .inl ⟨rfl, rfl⟩⟩
theorem OwN.kp {S : Nat → Prop} {w w1 : World} {base : Nat} {v : Value} {l : List Ins} (h : OwN w base v l) (hk : Kp S w w1) (hs : ∀ g, v.ownBlock = some g → ¬ S g) : OwN w1 base v l := by
  obtain ⟨h1, h2⟩ := h
  refine ⟨h1, ?_⟩
  rcases h2 with h2 | ⟨g, cap, cur, rfl, a, b, c⟩
  · exact .inl h2
  · exact .inr ⟨g, cap, cur, rfl, a, hk.blk (hs g rfl) b, c⟩
theorem OwN.below {w w1 : World} {base : Nat} {v : Value} {l : List Ins} (h : OwN w base v l) (hb : Below w.heap.size w w1) : OwN w1 base v l := h.kp (Kp.of_below (S := fun _ => False) hb) (fun _ _ h => h)
theorem OwN.lower {w : World} {base base' : Nat} {v : Value} {l : List Ins} (h : OwN w base v l) (hb : base' ≤ base) : OwN w base' v l := by
  obtain ⟨h1, h2⟩ := h
  refine ⟨h1, ?_⟩
  rcases h2 with h2 | ⟨g, cap, cur, a, b, c⟩
  · exact .inl h2
  · exact .inr ⟨g, cap, cur, a, by omega, c⟩
theorem OwN.heap {w : World} {base : Nat} {v : Value} {l : List Ins} {g : Nat} (h : OwN w base v l) (hg : v.ownBlock = some g) : ∃ cs, w.heap[g]? = some (.cells cs 92 (0, 0)) := by
  rcases h.2 with ⟨rfl, _⟩ | ⟨g', cap, cur, rfl, _, h2, _⟩
  · cases hg
  · have : g' = g := by simpa [Value.ownBlock] using hg
    subst this; exact ⟨_, h2⟩
theorem OwN.ne {w : World} {base : Nat} {T : TypeId} {v : Value} {l : List Ins} {b : Nat} {cs : Array Value} {fr : Nat × Nat} (h : OwN w base v l) (hb : w.heap[b]? = some (.cells cs T fr)) (hT : T ≠ 92) : v.ownBlock ≠ some b := by
  intro e
  obtain ⟨cs', h2⟩ := h.heap e
  rw [hb] at h2
  injection h2 with h2
  injection h2 with _ h3
  exact hT h3
theorem OwN.blockGe {w : World} {base : Nat} {v : Value} {l : List Ins} (h : OwN w base v l) : ∀ b, v.ownBlock = some b → base ≤ b ∧ b < w.heap.size := by
  intro b hb
  rcases h.2 with ⟨rfl, _⟩ | ⟨g, cap, cur, rfl, h1, hh, _⟩
  · simp [Value.ownBlock] at hb
  · have : g = b := by simpa [Value.ownBlock] using hb
    subst this
    exact ⟨h1, blk_lt hh⟩
theorem OwN.cells {w : World} {base g n c : Nat} {l : List Ins} (h : OwN w base (.slice (some ⟨g, 0, none⟩) n c) l) (j : Nat) (u : Value) (hj : (flatC l)[j]? = some u) : w.cell? ⟨g, j, none⟩ = some u := by
  have := World.ownsRow.cells (g := g) h rfl j u hj
  rwa [add0] at this
theorem OwN.rd {w : World} {base : Nat} {v : Value} {l : List Ins} (h : OwN w base v l) : RdNS w v l := by
  rcases Nat.eq_zero_or_pos l.length with h0 | h0
  · have hl : l = [] := List.eq_nil_of_length_eq_zero h0
    subst hl
    rcases h.2 with ⟨rfl, -⟩ | ⟨g, cap, cur, rfl, -, -, h3, -⟩
    · exact ⟨none, 0, rfl, Nat.le_refl _, fun _ => rfl, by simp, fun h => by simp at h⟩
    · exact ⟨_, cap, rfl, h3, (fun h => by cases h), by simp, fun h => by simp at h⟩
  · rcases h.2 with ⟨rfl, h1⟩ | ⟨g, cap, cur, rfl, h1, h2, h3, h4, h5, h6⟩
    · omega
    · refine ⟨_, cap, rfl, h3, (fun h => by cases h), by simp only [maxLen] at h4; omega, fun _ => ⟨_, rfl, fun j hj i hi => ?_⟩⟩
      rw [add_add, add0]
      exact OwN.cells h _ _ (flatC_get l j i hj hi)
theorem OwN.form {w : World} {base : Nat} {v : Value} {l : List Ins} (h : OwN w base v l) : ∃ A c, v = .slice A l.length c := by
  obtain ⟨A, c, h1, -⟩ := h.rd
  exact ⟨A, c, h1⟩
theorem OwN.posf {w : World} {base : Nat} {v : Value} {l : List Ins} (h : OwN w base v l) (hl : 0 < l.length) : ∃ g c, v = .slice (some ⟨g, 0, none⟩) l.length c ∧ base ≤ g ∧ l.length ≤ c ∧ c ≤ 9223372036854775807 := by
  rcases h.2 with ⟨rfl, h1⟩ | ⟨g, cap, cur, rfl, h1, h2, h3, h4, h5, h6⟩
  · omega
  · exact ⟨g, cap, rfl, h1, h3, by simpa only [maxLen] using h4⟩
theorem OwN.lit {W : World} {base : Nat} (l : List Ins) (hb : base ≤ W.heap.size) (hm : l.length ≤ 9223372036854775807) :
    OwN (W.alloc (.cells (flatC l).toArray 92)) base (.slice (some ⟨W.heap.size, 0, none⟩) l.length l.length) l := by
  refine ⟨flatC_len l, .inr ⟨W.heap.size, l.length, (flatC l).toArray, rfl, hb, heap_alloc_new W _, Nat.le_refl _, by simp only [maxLen]; omega, by simp [flatC_len], ?_⟩⟩
  simp only
  exact List.take_of_length_le (by rw [flatC_len]; exact Nat.le_refl _)
theorem run_ap_rowN {P : Program} {W : World} (base : Nat) (t ty : TypeId) (z : Value) (bytes : Nat)
    (ht : P.underlying t = some (.slice 92)) (hinfo : (P.info? 92).map (fun i => (i.zero, i.size, i.bytes)) = some (some z, 6, bytes)) (hz : z.cells.size = 6) (hb0 : 0 < bytes)
    (v : Value) (l : List Ins) (vx : Value) (ys : List Ins)
    (HO : OwN W base v l) (HR : RdNS W vx ys) (hbase : base ≤ W.heap.size) (hl : (l.length + ys.length) * bytes ≤ 140737488355328) :
    ∃ v1 w1, (Builtin.append_ #[t, t] ty #[v, vx]).run P W = .ok v1 w1 ∧ Hid (OwN w1 base v1 (l ++ ys)) ∧ Hid (W.grownBy w1 v.ownBlock) ∧ Hid (v1.ownBlock = v.ownBlock ∨ ∃ b, v1.ownBlock = some b ∧ W.heap.size ≤ b) := by
  obtain ⟨i0, hi, hz0, hz1, hz2⟩ := info_parts hinfo
  have hlen : l.length + ys.length ≤ 140737488355328 := Nat.le_trans (Nat.le_mul_of_pos_right _ hb0) hl
  obtain ⟨B, c, rfl, hc1, hc2, HR⟩ := HR
  cases B with
  | some ad =>
    have hc : ∀ j u, (flatC ys)[j]? = some u → W.cell? (ad.add j) = some u := by
      intro j u hu
      have hj : j < ys.length * 6 := by
        have := (List.getElem?_eq_some_iff.1 hu).1
        rwa [flatC_len] at this
      obtain ⟨ad', e', hc⟩ := HR.2 (by omega)
      obtain rfl := Option.some.inj e'
      have h1 := hc (j / 6) (by omega) (j % 6) (by omega)
      rw [add_add, show j / 6 * 6 + j % 6 = j by omega] at h1
      rw [h1, ← hu]
      have h2 := flatC_get ys (j / 6) (j % 6) (by omega) (by omega)
      rw [show j / 6 * 6 + j % 6 = j by omega] at h2
      exact h2.symm
    obtain ⟨v', w', hr, h2, h3, h4, h5⟩ := run_append_own_at (P := P) W base t ty 92 i0 z 6 bytes ht hi hz0 hz1 hz2 hz (by omega) v l.length (flatC l) HO ad ys.length c (flatC ys) (flatC_len ys) hc
      (flatC_one' ys) (by simp only [maxLen]; omega) hl hbase
    refine ⟨v', w', hr, (show w'.ownsRow _ _ _ _ _ _ by rw [List.length_append, flatC_append]; exact h2), h3, ?_⟩
    rcases h5 with h5 | h5
    · exact .inl h5
    · exact .inr ⟨_, h5, Nat.le_refl _⟩
  | none =>
    have h0 : ys = [] := by
      cases ys with
      | nil => rfl
      | cons y ys => obtain ⟨ad, e', _⟩ := HR.2 (by simp); cases e'
    subst h0
    obtain rfl := hc2 rfl
    exact ⟨v, W, run_append_owned_none W base t ty 92 i0 6 ht hi v l.length (flatC l) HO, (show OwN W base v (l ++ []) by rw [List.append_nil]; exact HO), ⟨rfl, rfl, rfl, Nat.le_refl _, fun _ _ _ => rfl⟩, .inl rfl⟩
theorem wp_ap_rowN {P : Program} {o : Oper} {a : Act} {K : Act → World → Prop} {Q : Exit → Act → World → Prop} {W : World} (base : Nat) (s x : Operand) (t : TypeId) (z : Value) (bytes : Nat)
    (ho : o.op = .call { callee := .builtin .append, args := #[s, x], argTypes := #[t, t] })
    (ht : P.underlying t = some (.slice 92)) (hinfo : (P.info? 92).map (fun i => (i.zero, i.size, i.bytes)) = some (some z, 6, bytes)) (hz : z.cells.size = 6) (hb0 : 0 < bytes)
    (l : List Ins) (ys : List Ins) (N : Nat)
    (HO : OwN W base (a.eval s) l) (HR : RdNS W (a.eval x) ys) (hbase : base ≤ W.heap.size) (hl : (l.length + ys.length) * bytes ≤ 140737488355328)
    (hN : l.length + ys.length = N) (h : ∀ A1 c1 w1, Hid (OwN w1 base (.slice A1 N c1) (l ++ ys)) → Hid (W.grownBy w1 (a.eval s).ownBlock) → Hid ((Value.slice A1 N c1).ownBlock = (a.eval s).ownBlock ∨ ∃ b, (Value.slice A1 N c1).ownBlock = some b ∧ W.heap.size ≤ b) → K (a.put o.dst (.slice A1 N c1)) w1) : o.wp P a W K Q := by
  obtain ⟨v1, w1, hr, h2, h3, h4⟩ := run_ap_rowN base t o.type z bytes ht hinfo hz hb0 _ l _ ys HO HR hbase hl
  unfold Oper.wp execOp
  simp only [ho, resolve, invoke, builtin, Sem.run_bind, Sem.run_pure, Result.andThen_ok, List.map_toArray, List.map_cons, List.map_nil, hr]
  obtain ⟨A1, c1, rfl⟩ := OwN.form h2.out
  obtain rfl : (l ++ ys).length = N := by rw [List.length_append, hN]
  exact h A1 c1 w1 h2 h3 h4
theorem ap_rowN {P : Program} {ops : Array Oper} {rest : List Oper} {o : Oper} {a : Act} {Q : Exit → Act → World → Prop} {W : World} (base : Nat) (hgd : o.guard = none) (s x : Operand) (t : TypeId) (z : Value) (bytes : Nat)
    (ho : o.op = .call { callee := .builtin .append, args := #[s, x], argTypes := #[t, t] })
    (ht : P.underlying t = some (.slice 92)) (hinfo : (P.info? 92).map (fun i => (i.zero, i.size, i.bytes)) = some (some z, 6, bytes)) (hz : z.cells.size = 6) (hb0 : 0 < bytes)
    (l : List Ins) (ys : List Ins) (N : Nat)
    (HO : OwN W base (a.eval s) l) (HR : RdNS W (a.eval x) ys) (hbase : base ≤ W.heap.size) (hl : (l.length + ys.length) * bytes ≤ 140737488355328)
    (hN : l.length + ys.length = N) (h : ∀ A1 c1 w1, Hid (OwN w1 base (.slice A1 N c1) (l ++ ys)) → Hid (W.grownBy w1 (a.eval s).ownBlock) → Hid ((Value.slice A1 N c1).ownBlock = (a.eval s).ownBlock ∨ ∃ b, (Value.slice A1 N c1).ownBlock = some b ∧ W.heap.size ≤ b) → wpList P ops Q rest (a.put o.dst (.slice A1 N c1)) w1) :
    wpList P ops Q (o :: rest) a W :=
  wpList_plain hgd fun _ hK => wp_ap_rowN base s x t z bytes ho ht hinfo hz hb0 l ys N HO HR hbase hl hN fun A1 c1 w1 h2 h3 h4 => hK _ _ (h A1 c1 w1 h2 h3 h4)
theorem step_ap_rowN {P : Program} {ops : Array Oper} {o : Oper} {a : Act} {K : Act → World → Prop} {Q : Exit → Act → World → Prop} {E : Prop} {W : World} (base : Nat) (hgd : o.guard = none) (s x : Operand) (t : TypeId) (z : Value) (bytes : Nat)
    (ho : o.op = .call { callee := .builtin .append, args := #[s, x], argTypes := #[t, t] })
    (ht : P.underlying t = some (.slice 92)) (hinfo : (P.info? 92).map (fun i => (i.zero, i.size, i.bytes)) = some (some z, 6, bytes)) (hz : z.cells.size = 6) (hb0 : 0 < bytes)
    (l : List Ins) (ys : List Ins) (N : Nat)
    (HO : OwN W base (a.eval s) l) (HR : RdNS W (a.eval x) ys) (hbase : base ≤ W.heap.size) (hl : (l.length + ys.length) * bytes ≤ 140737488355328)
    (hN : l.length + ys.length = N) (h : ∀ A1 c1 w1, Hid (OwN w1 base (.slice A1 N c1) (l ++ ys)) → Hid (W.grownBy w1 (a.eval s).ownBlock) → Hid ((Value.slice A1 N c1).ownBlock = (a.eval s).ownBlock ∨ ∃ b, (Value.slice A1 N c1).ownBlock = some b ∧ W.heap.size ≤ b) → K (a.put o.dst (.slice A1 N c1)) w1) :
    if Region.wanted o (yielded ops a.tmps) = true then Oper.wp P o a W K Q else E := by
  have hw : Region.wanted o (yielded ops a.tmps) = true := by simp [Region.wanted, hgd]
  rw [if_pos hw]
  exact wp_ap_rowN base s x t z bytes ho ht hinfo hz hb0 l ys N HO HR hbase hl hN h
/-- 's[:hi]' of a row with room -/
theorem cut_roomN {P : Program} {t e : TypeId} {z : Value} {size bytes : Nat} (ht : P.underlying t = some (.slice e)) (hinfo : (P.info? e).map (fun i => (i.zero, i.size, i.bytes)) = some (some z, size, bytes)) (g n cap hi : Nat) (hcap : 0 < cap) (hh : hi ≤ cap) :
    ∀ W : World, (Instr.slice t (.slice (some ⟨g, 0, none⟩) n cap) none (some (.int .i64 (hi : Int))) none).run P W = .ok (.slice (some ⟨g, 0, none⟩) hi cap) W := by
  obtain ⟨i0, hi0, hz0, hz1, hz2⟩ := info_parts hinfo
  intro W
  have hel : P.elem t = e := by simp [Program.elem, ht]
  have hu : P.underlying t = some (.slice (P.elem t)) := by rw [hel]; exact ht
  rw [run_slice_h W t _ n cap hu .i64 (hi : Int) (Int.natCast_nonneg _) (by omega), hel]
  have hne : ¬ cap = 0 := by omega
  simp [sizeOf, typeInfo, hi0, hz1, sliced, Result.andThen, add0, hne]
end Go.Proofs.Ytehcimecmbcdfaa
