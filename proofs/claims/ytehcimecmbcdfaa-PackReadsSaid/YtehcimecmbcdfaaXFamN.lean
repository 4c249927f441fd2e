/- Families of own rows of instructions: what marking, growing and reading them leaves (written by gen_famn.py off XFam). -/
import Derived.Test.YtehcimecmbcdfaaXFam
import Derived.Test.YtehcimecmbcdfaaXRowK
set_option linter.unusedSimpArgs false
set_option linter.unusedVariables false
namespace Go.Proofs.Ytehcimecmbcdfaa
open Go.RowKit

def ApIN (N : Nat) (V : Nat → Value) (len : Nat → Nat) (b : Nat → Ins) (w : World) (t : Nat) (wr : World) : Prop :=
  Kp (FS N V) w wr ∧ ∃ Y : Nat → List Ins, ∀ i, i < N → OwN wr 0 (V i) (Y i) ∧ (Y i).length = len i ∧ (i < t → Y i = List.replicate (len i) (b i))
def ApJN (N : Nat) (V : Nat → Value) (len : Nat → Nat) (b : Nat → Ins) (w : World) (t j : Nat) (wr : World) : Prop :=
  Kp (FS N V) w wr ∧ ∃ Y : Nat → List Ins, ∀ i, i < N → OwN wr 0 (V i) (Y i) ∧ (Y i).length = len i ∧ (i < t → Y i = List.replicate (len i) (b i)) ∧ (i = t → ∀ s, s < j → (Y i).getD s zIns = b t)
variable {N : Nat} {V : Nat → Value} {len : Nat → Nat} {b : Nat → Ins} {w : World} {t j : Nat} {wr : World}
theorem ApIN.start (h : ApIN N V len b w t wr) : ApJN N V len b w t 0 wr := by
  obtain ⟨hk, Y, hY⟩ := h
  exact ⟨hk, Y, fun i hi => ⟨(hY i hi).1, (hY i hi).2.1, (hY i hi).2.2, fun _ s hs => absurd hs (Nat.not_lt_zero _)⟩⟩
theorem ApJN.done (h : ApJN N V len b w t j wr) (hj : len t ≤ j) : ApIN N V len b w (t + 1) wr := by
  obtain ⟨hk, Y, hY⟩ := h
  refine ⟨hk, Y, fun i hi => ⟨(hY i hi).1, (hY i hi).2.1, fun hlt => ?_⟩⟩
  by_cases he : i = t
  · subst he
    refine List.ext_getElem (by rw [(hY i hi).2.1, List.length_replicate]) fun s h1 h2 => ?_
    have := (hY i hi).2.2.2 rfl s (by rw [(hY i hi).2.1] at h1; omega)
    rw [List.getD_eq_getElem?_getD, List.getElem?_eq_getElem h1] at this
    simpa using this
  · exact (hY i hi).2.2.1 (by omega)
/-- one mark -/
theorem ApJN.step (h : ApJN N V len b w t j wr) (hA : Apt N V) (ht : t < N) (hj : j < len t) {g n c : Nat} (hV : V t = .slice (some ⟨g, 0, none⟩) n c) : ApJN N V len b w t (j + 1) (put6 wr g j (b t)) := by
  obtain ⟨hk, Y, hY⟩ := h
  refine ⟨hk.trans ((put6_kp wr g j (b t)).mono (fun x hx => ⟨t, ht, by rw [hV, hx]; rfl⟩)), fun i => if i = t then (Y i).set j (b t) else Y i, fun i hi => ?_⟩
  by_cases he : i = t
  · subst he
    simp only [if_true]
    refine ⟨?_, by rw [List.length_set]; exact (hY i hi).2.1, fun h => absurd h (Nat.lt_irrefl _), fun _ s hs => ?_⟩
    · have := (hY i hi).1
      have hl := (hY i hi).2.1
      rw [hV] at this ⊢
      exact this.put j (b i) (by rw [hl]; exact hj)
    · have hl := (hY i hi).2.1
      rw [List.getD_eq_getElem?_getD, List.getElem?_set]
      by_cases hsj : j = s
      · subst hsj
        rw [if_pos rfl, if_pos (by omega)]; rfl
      · rw [if_neg hsj, ← List.getD_eq_getElem?_getD]
        exact (hY i hi).2.2.2 rfl s (by omega)
  · simp only [if_neg he]
    refine ⟨(hY i hi).1.kp (put6_kp wr g j (b t)) (fun x hx e => ?_), (hY i hi).2.1, (hY i hi).2.2.1, fun h => absurd h he⟩
    exact hA t i g ht hi (Ne.symm he) (by rw [hV]; rfl) (by rw [hx, e])
theorem ApJN.own (h : ApJN N V len b w t j wr) (ht : t < N) (hj : j < len t) : ∃ g c, V t = .slice (some ⟨g, 0, none⟩) (len t) c ∧ ∀ i, i < 6 → ∃ x, wr.cell? ⟨g, j * 6 + i, none⟩ = some (.int .i64 x) ∧ wr.frozen? ⟨g, j * 6 + i, none⟩ = false := by
  obtain ⟨hk, Y, hY⟩ := h
  obtain ⟨h1, h2, _⟩ := hY t ht
  rcases h1.2 with ⟨h0, h3⟩ | ⟨g, cap, cur, hv, a1, hh, a3, a4, a5, a6⟩
  · omega
  · refine ⟨g, cap, by rw [hv, h2], fun i hi => ?_⟩
    have hc := OwN.cells (hv ▸ h1) (j * 6 + i) _ (flatC_get (Y t) j i (by omega) hi)
    have : ∃ x, ((Y t).getD j zIns).cells.getD i (.int .i64 0) = .int .i64 x := by
      have : i = 0 ∨ i = 1 ∨ i = 2 ∨ i = 3 ∨ i = 4 ∨ i = 5 := by omega
      rcases this with rfl | rfl | rfl | rfl | rfl | rfl <;> exact ⟨_, rfl⟩
    obtain ⟨x, hx⟩ := this
    rw [hx] at hc
    exact ⟨x, hc, blk_frozen hh _⟩
/-- behind the marks: rows that are grown -/
def GrIN (E2 : TypeId) (N M : Nat) (V : Nat → Value) (len : Nat → Nat) (b d : Nat → Ins) (w : World) (t : Nat) (v5 : Value) (wr : World) : Prop :=
  Kp (FS N V) w wr ∧ ∃ Z : Nat → Value, OwV wr w.heap.size E2 v5 ((List.range t).map Z) ∧ ∀ i, i < N →
    RdNS wr (V i) (List.replicate (len i) (b i)) ∧ (t ≤ i → OwN wr 0 (V i) (List.replicate (len i) (b i))) ∧
    (i < t → OwN wr 0 (Z i) (List.replicate (len i) (b i) ++ List.replicate M (d i)) ∧ ((Z i).ownBlock = (V i).ownBlock ∨ ∃ g, (Z i).ownBlock = some g ∧ w.heap.size ≤ g))
def GrJN (X : List Ins) (dt : Ins) (Vt : Value) (w2 : World) (j : Nat) (v7 : Value) (wr : World) : Prop :=
  Kp (fun g => Vt.ownBlock = some g) w2 wr ∧ OwN wr 0 v7 (X ++ List.replicate j dt) ∧ (v7.ownBlock = Vt.ownBlock ∨ ∃ g, v7.ownBlock = some g ∧ w2.heap.size ≤ g) ∧ RdNS wr Vt X
theorem rep_succN (X : List Ins) (j : Nat) (dt : Ins) : X ++ List.replicate (j + 1) dt = (X ++ List.replicate j dt) ++ [dt] := by
  rw [List.replicate_succ', List.append_assoc]
theorem GrJN.start {X : List Ins} {dt : Ins} {Vt : Value} {w2 : World} (h : OwN w2 0 Vt X) : GrJN X dt Vt w2 0 Vt w2 :=
  ⟨Kp.refl _ _, by simpa using h, .inl rfl, h.rd⟩
theorem GrJN.step {X : List Ins} {dt : Ins} {Vt : Value} {w2 : World} {v7 v8 : Value} {w1 : World} (h : GrJN X dt Vt w2 j v7 wr)
    (h2 : OwN w1 0 v8 ((X ++ List.replicate j dt) ++ [dt])) (h3 : wr.grownBy w1 v7.ownBlock) (h4 : v8.ownBlock = v7.ownBlock ∨ ∃ b, v8.ownBlock = some b ∧ wr.heap.size ≤ b)
    (h5 : ∀ g s u, v7.ownBlock = some g → (flatC (X ++ List.replicate j dt))[s]? = some u → w1.cell? ⟨g, s, none⟩ = some u)
    (h0 : ∀ g, Vt.ownBlock = some g → ∃ n c, Vt = .slice (some ⟨g, 0, none⟩) n c) : GrJN X dt Vt w2 (j + 1) v8 w1 := by
  obtain ⟨a1, a2, a3, a4⟩ := h
  refine ⟨⟨h3.os.trans a1.os, h3.tape.trans a1.tape, h3.output.trans a1.output, Nat.le_trans a1.size h3.size, fun i hi hn => ?_⟩, by rw [rep_succN]; exact h2, ?_, ?_⟩
  · refine (h3.block i (Nat.lt_of_lt_of_le hi a1.size) ?_).trans (a1.block i hi hn)
    rcases a3 with e | ⟨g, e, hg⟩
    · rw [e]; exact fun h => hn h.symm
    · rw [e]; intro h; injection h with h; omega
  · rcases h4 with e | ⟨g, e, hg⟩
    · rw [e]; exact a3
    · exact .inr ⟨g, e, Nat.le_trans a1.size hg⟩
  · obtain ⟨A, c, rfl, b1, b2, b3⟩ := a4
    refine ⟨A, c, rfl, b1, b2, b3.1, fun hn => ?_⟩
    obtain ⟨ad, rfl, hc⟩ := b3.2 hn
    obtain ⟨n', c', hv⟩ := h0 ad.block rfl
    injection hv with e1 e2 e3
    injection e1 with e1
    refine ⟨ad, rfl, fun s hs i hi => ?_⟩
    have had : (ad.add (s * 6)).add i = ⟨ad.block, s * 6 + i, none⟩ := by rw [add_add, e1, add0]
    by_cases e : v7.ownBlock = some ad.block
    · rw [had]
      exact h5 ad.block (s * 6 + i) _ e (by rw [flatC_append, List.getElem?_append_left (by rw [flatC_len]; omega)]; exact flatC_get X s i hs hi)
    · rw [← hc s hs i hi]
      exact World.cell?_of_block (h3.block _ (World.block_lt_of_cell? wr _ (hc s hs i hi)) (by rw [had]; exact fun h => e h.symm))
/-- one row has been grown: w1: before it is handed to the list of rows -/
theorem GrIN.step {E2 : TypeId} {M : Nat} {d : Nat → Ins} {v5 v6 v7 : Value} {w1 w2 : World} (hE : E2 ≠ 92) (h : GrIN E2 N M V len b d w t v5 wr) (hA : Apt N V) (hVw : ∀ i g, i < N → (V i).ownBlock = some g → g < w.heap.size) (ht : t < N)
    (hj : GrJN (List.replicate (len t) (b t)) (d t) (V t) wr M v7 w1) (h2 : ∀ l, OwV w1 w.heap.size E2 v5 l → l.length = t → OwV w2 w.heap.size E2 v6 (l ++ [v7])) (h3 : w1.grownBy w2 v5.ownBlock) : GrIN E2 N M V len b d w (t + 1) v6 w2 := by
  obtain ⟨a1, Z, a2, a3⟩ := h
  obtain ⟨c1, c2, c3, c4⟩ := hj
  have hv5 : ∀ g, v5.ownBlock = some g → w.heap.size ≤ g := fun g hg => (a2.blockGe g hg).1
  have k2 : Kp (fun g => v5.ownBlock = some g) w1 w2 := ⟨h3.os, h3.tape, h3.output, h3.size, fun i hi hn => h3.block i hi (fun e => hn e.symm)⟩
  have a2' : OwV w1 w.heap.size E2 v5 ((List.range t).map Z) := a2.kp c1 (fun g hg e => by
    have := hv5 g hg
    have := hVw t g ht e
    omega)
  have own5 : ∀ {wx : World} {vx : Value} {l : List Ins} {g : Nat}, OwN wx 0 vx l → wx = w1 → vx.ownBlock = some g → v5.ownBlock ≠ some g := by
    intro wx vx l g ho e hg e5
    subst e
    obtain ⟨cs, hcs⟩ := ho.heap hg
    exact a2'.ne hcs (Ne.symm hE) e5
  refine ⟨⟨h3.os.trans (c1.os.trans a1.os), h3.tape.trans (c1.tape.trans a1.tape), h3.output.trans (c1.output.trans a1.output), Nat.le_trans a1.size (Nat.le_trans c1.size h3.size), fun i hi hn => ?_⟩, fun i => if i = t then v7 else Z i, ?_, fun i hi => ?_⟩
  · refine (k2.block i (Nat.lt_of_lt_of_le hi (Nat.le_trans a1.size c1.size)) (fun e => by have := hv5 i e; omega)).trans ((c1.block i (Nat.lt_of_lt_of_le hi a1.size) (fun e => hn ⟨t, ht, e⟩)).trans (a1.block i hi hn))
  · have := h2 _ a2' (by simp)
    rw [List.range_succ, List.map_append, List.map_cons, List.map_nil, if_pos rfl]
    have e : (List.range t).map (fun i => if i = t then v7 else Z i) = (List.range t).map Z := List.map_congr_left fun i hi => by
      have := List.mem_range.1 hi
      rw [if_neg (by omega)]
    rw [e]; exact this
  · obtain ⟨r1, r2, r3⟩ := a3 i hi
    have hb5 : ∀ g, (V i).ownBlock = some g → ¬ v5.ownBlock = some g := fun g hg e => by
      have := hv5 g e
      have := hVw i g hi hg
      omega
    by_cases he : i = t
    · subst he
      refine ⟨c4.kp k2 hb5, fun h => absurd h (by omega), fun _ => ?_⟩
      simp only [if_true]
      refine ⟨c2.kp k2 (fun g hg => own5 c2 rfl hg), ?_⟩
      rcases c3 with c3 | ⟨g, e, hg⟩
      · exact .inl c3
      · exact .inr ⟨g, e, Nat.le_trans a1.size hg⟩
    · have hd : ∀ g, (V i).ownBlock = some g → ¬ (V t).ownBlock = some g := fun g hg => hA i t g hi ht he hg
      refine ⟨(r1.kp c1 hd).kp k2 hb5, fun hle => ((r2 (by omega)).kp c1 hd).kp k2 hb5, fun hlt => ?_⟩
      simp only [if_neg he]
      obtain ⟨q1, q2⟩ := r3 (by omega)
      have q1' := q1.kp c1 (fun g hg e => by
        rcases q2 with q2 | ⟨g', e', hg'⟩
        · rw [q2] at hg; exact hd g hg e
        · rw [hg] at e'; injection e' with e'
          have := hVw t g ht e
          omega)
      exact ⟨q1'.kp k2 (fun g hg => own5 q1' rfl hg), q2⟩
theorem ApIN.grow {E2 : TypeId} {M : Nat} {d : Nat → Ins} (h : ApIN N V len b w N wr) : GrIN E2 N M V len b d w 0 (.slice none 0 0) wr := by
  obtain ⟨hk, Y, hY⟩ := h
  refine ⟨hk, fun _ => .slice none 0 0, OwV.nil _ _ _, fun i hi => ?_⟩
  obtain ⟨h1, h2, h3⟩ := hY i hi
  rw [h3 hi] at h1
  exact ⟨h1.rd, fun _ => h1, fun h => absurd h (Nat.not_lt_zero _)⟩
end Go.Proofs.Ytehcimecmbcdfaa
