/- Own rows of one-cell values; an append that leaves the old row readable; a store into an own row. -/
import Derived.Test.YtehcimecmbcdfaaXKeep
import Derived.ArgAppend
set_option linter.unusedSimpArgs false
set_option linter.unusedVariables false
namespace Go.Proofs.Ytehcimecmbcdfaa
open Go.RowKit

/-- A row of one-cell values of the call's own. -/
def OwV (w : World) (base : Nat) (E : TypeId) (v : Value) (xs : List Value) : Prop := w.ownsRow base E 1 v xs.length xs
theorem OwV.nil (w : World) (base : Nat) (E : TypeId) : OwV w base E (.slice none 0 0) [] := ⟨by simp, .inl ⟨rfl, rfl⟩⟩
theorem OwV.kp {S : Nat → Prop} {w w1 : World} {base : Nat} {E : TypeId} {v : Value} {l : List Value} (h : OwV w base E v l) (hk : Kp S w w1) (hs : ∀ g, v.ownBlock = some g → ¬ S g) : OwV w1 base E v l := by
  obtain ⟨h1, h2⟩ := h
  refine ⟨h1, ?_⟩
  rcases h2 with h2 | ⟨g, cap, cur, rfl, a, b, c⟩
  · exact .inl h2
  · exact .inr ⟨g, cap, cur, rfl, a, hk.blk (hs g rfl) b, c⟩
theorem OwV.below {w w1 : World} {base : Nat} {E : TypeId} {v : Value} {l : List Value} (h : OwV w base E v l) (hb : Below w.heap.size w w1) : OwV w1 base E v l := h.kp (Kp.of_below (S := fun _ => False) hb) (fun _ _ h => h)
theorem OwV.blockGe {w : World} {base : Nat} {E : TypeId} {v : Value} {l : List Value} (h : OwV w base E v l) : ∀ b, v.ownBlock = some b → base ≤ b ∧ b < w.heap.size := by
  intro b hb
  rcases h.2 with ⟨rfl, _⟩ | ⟨g, cap, cur, rfl, h1, hh, _⟩
  · simp [Value.ownBlock] at hb
  · have : g = b := by simpa [Value.ownBlock] using hb
    subst this
    exact ⟨h1, (Array.getElem?_eq_some_iff.1 hh).1⟩
theorem OwV.form {w : World} {base : Nat} {E : TypeId} {v : Value} {l : List Value} (h : OwV w base E v l) : ∃ A c, v = .slice A l.length c ∧ l.length ≤ c ∧ l.length ≤ 9223372036854775807 ∧ (A = none → c = 0) ∧ (∀ ad, A = some ad → ∃ g, ad = ⟨g, 0, none⟩ ∧ v.ownBlock = some g) ∧ (∀ j, j < l.length → ∃ g, A = some ⟨g, 0, none⟩ ∧ w.cell? ⟨g, j, none⟩ = l[j]?) := by
  rcases h.2 with ⟨rfl, h1⟩ | ⟨g, cap, cur, rfl, h1, h2, h3, h4, h5, h6⟩
  · have h0 : l = [] := List.eq_nil_of_length_eq_zero h1
    subst h0
    exact ⟨none, 0, rfl, Nat.le_refl _, by simp, fun _ => rfl, (fun ad h => by cases h), fun j hj => by simp at hj⟩
  · refine ⟨_, cap, rfl, h3, by simp only [maxLen] at h4; omega, (fun h => by cases h), fun ad h => ⟨g, (Option.some.inj h).symm, rfl⟩, fun j hj => ⟨g, rfl, ?_⟩⟩
    have hc := World.ownsRow.cells (g := g) h rfl j (l[j]) (by simp [List.getElem?_eq_getElem hj])
    rw [add0] at hc
    rw [hc, List.getElem?_eq_getElem hj]
theorem OwV.ne {w : World} {base : Nat} {E T : TypeId} {v : Value} {l : List Value} {b : Nat} {cs : Array Value} {fr : Nat × Nat} (h : OwV w base E v l) (hb : w.heap[b]? = some (.cells cs T fr)) (hT : T ≠ E) : v.ownBlock ≠ some b := by
  intro e
  rcases h.2 with ⟨rfl, _⟩ | ⟨g, cap, cur, rfl, _, h2, _⟩
  · cases e
  · have : g = b := by simpa [Value.ownBlock] using e
    subst this
    rw [hb] at h2
    injection h2 with h2
    injection h2 with _ h3
    exact hT h3
theorem OwI.heap {w : World} {base : Nat} {E : TypeId} {k : IntKind} {v : Value} {l : List Int} {g : Nat} (h : OwI w base E k v l) (hg : v.ownBlock = some g) : ∃ cs, w.heap[g]? = some (.cells cs E (0, 0)) := by
  rcases h.2 with ⟨rfl, _⟩ | ⟨g', cap, cur, rfl, _, h2, _⟩
  · cases hg
  · have : g' = g := by simpa [Value.ownBlock] using hg
    subst this
    exact ⟨_, h2⟩
/-- append(s, y) of one-cell values -/
theorem ap_oneV {P : Program} {ops : Array Oper} {rest : List Oper} {o : Oper} {a : Act} {Q : Exit → Act → World → Prop} {W : World} (base : Nat) (hgd : o.guard = none) (s x : Operand) (t e : TypeId) (z : Value) (bytes : Nat)
    (ho : o.op = .call { callee := .builtin .append, args := #[s, x], argTypes := #[t, t] })
    (ht : P.underlying t = some (.slice e)) (hinfo : (P.info? e).map (fun i => (i.zero, i.size, i.bytes)) = some (some z, 1, bytes)) (hz1 : z.cells.size = 1) (hb0 : 0 < bytes)
    (v : Value) (l : List Value) (y : Value) (hy : y.oneCell' = true) (hs : a.eval s = v) (hx : a.eval x = .slice (some ⟨W.heap.size, 0, none⟩) 1 1)
    (HO : OwV W base e v l) (hbase : base ≤ W.heap.size) (hl : (l.length + 1) * bytes ≤ 140737488355328)
    (N : Nat) (hN : l.length + 1 = N) (h : ∀ A1 c1 w1, Hid (OwV w1 base e (.slice A1 N c1) (l ++ [y])) → Hid (W.grownBy w1 v.ownBlock) → Hid ((Value.slice A1 N c1).ownBlock = v.ownBlock ∨ ∃ b, (Value.slice A1 N c1).ownBlock = some b ∧ W.heap.size ≤ b) → wpList P ops Q rest (a.put o.dst (.slice A1 N c1)) w1) :
    wpList P ops Q (o :: rest) a (W.alloc (.cells #[y] e)) := by
  obtain ⟨i0, hi, hz0, hz1', hz2⟩ := info_parts hinfo
  have hlen : l.length + 1 ≤ 140737488355328 := Nat.le_trans (Nat.le_mul_of_pos_right _ hb0) hl
  refine wpList_append_own_at (W.alloc (.cells #[y] e)) hgd s x t ho base e i0 z 1 bytes ht hi hz0 hz1' hz2 hz1 (by omega) v l.length l hs (World.ownsRow.alloc HO _) ⟨W.heap.size, 0, none⟩ 1 1 [y] hx rfl
    (World.news_of_block (cs := #[y]) (t := e) (fr := (0, 0)) (heap_alloc_new W _)) (by intro u hu; simp at hu; subst hu; exact hy) (by simp only [maxLen]; omega) hl (by simp; omega) ?_
  intro v1 w1 hown hg _ hat
  have ho2 : OwV w1 base e v1 (l ++ [y]) := (show w1.ownsRow _ _ _ _ _ _ by simpa using hown)
  obtain ⟨A1, c1, rfl, _⟩ := ho2.form
  obtain rfl : (l ++ [y]).length = N := by rw [List.length_append, ← hN]; rfl
  refine h A1 c1 w1 ho2 (World.grownBy.trans (World.grownBy_alloc W _ _) hg) ?_
  rcases hat with hat | hat
  · exact .inl hat
  · exact .inr ⟨_, hat, by simp⟩
/-- append(s, y) of numbers: what the old slice shows stays -/
theorem run_keep {P : Program} {W : World} (base : Nat) (t ty e : TypeId) (k : IntKind) (bytes : Nat)
    (ht : P.underlying t = some (.slice e)) (hinfo : (P.info? e).map (fun i => (i.zero, i.size, i.bytes)) = some (some (.int k 0), 1, bytes)) (hb0 : 0 < bytes)
    (v : Value) (l : List Int) (y : Int) (ad : Addr) (hc : W.cell? ad = some (.int k y))
    (HO : OwI W base e k v l) (hbase : base ≤ W.heap.size) (hl : (l.length + 1) * bytes ≤ 140737488355328) :
    ∃ A1 c1 w1, (Builtin.append_ #[t, t] ty #[v, .slice (some ad) 1 1]).run P W = .ok (.slice A1 (l.length + 1) c1) w1 ∧ OwI w1 base e k (.slice A1 (l.length + 1) c1) (l ++ [y]) ∧ W.grownBy w1 v.ownBlock ∧
      ((Value.slice A1 (l.length + 1) c1).ownBlock = v.ownBlock ∨ ∃ b, (Value.slice A1 (l.length + 1) c1).ownBlock = some b ∧ W.heap.size ≤ b) ∧ (∀ g j, v.ownBlock = some g → j < l.length → w1.cell? ⟨g, j, none⟩ = some (.int k (l.getD j 0))) := by
  obtain ⟨i0, hi, hz0, hz1, hz2⟩ := info_parts hinfo
  have hlen : l.length + 1 ≤ 140737488355328 := Nat.le_trans (Nat.le_mul_of_pos_right _ hb0) hl
  have hnews : ∀ j u, ([Value.int k y] : List Value)[j]? = some u → W.cell? (ad.add j) = some u := by
    intro j u hu
    match j, hu with
    | 0, hu => simp at hu; subst hu; rw [show ad.add 0 = ad by unfold Addr.add; simp]; exact hc
  have h1c : ∀ u ∈ ([Value.int k y] : List Value), u.oneCell' = true := by intro u hu; simp at hu; subst hu; rfl
  have old : ∀ g c, v = .slice (some ⟨g, 0, none⟩) l.length c → ∀ j, j < l.length → W.cell? ⟨g, j, none⟩ = some (.int k (l.getD j 0)) := by
    intro g c hv j hj
    have h2 := World.ownsRow.cells (g := g) (hv ▸ HO) rfl j (.int k (l.getD j 0)) (by simp [List.getElem?_eq_getElem hj, List.getD_eq_getElem?_getD])
    rwa [add0] at h2
  rcases HO.2 with ⟨rfl, h0⟩ | ⟨g, cap, cur, rfl, hbg, hg, hnc, hcm, hcs, htake⟩
  · obtain ⟨v', w', hr, h2, h3, _, h5⟩ := run_append_own_at (P := P) W base t ty e i0 (.int k 0) 1 bytes ht hi hz0 hz1 hz2 rfl (by omega) (.slice none 0 0) l.length (l.map (Value.int k)) HO ad 1 1 [.int k y] rfl hnews h1c (by simp only [maxLen]; omega) hl hbase
    have ho : OwI w' base e k v' (l ++ [y]) := (show w'.ownsRow _ _ _ _ _ _ by simpa using h2)
    obtain ⟨A1, c1, rfl⟩ := ho.form
    simp only [List.length_append, List.length_cons, List.length_nil, Nat.zero_add] at hr ho h5
    exact ⟨A1, c1, w', hr, ho, h3, h5.elim .inl fun h => .inr ⟨_, h, Nat.le_refl _⟩, fun g j hg => by cases hg⟩
  · by_cases hroom : l.length + 1 ≤ cap
    · obtain ⟨w', hr, h2, h3⟩ := run_append_fits (P := P) W base t ty e i0 1 ht hi hz1 g l.length cap (l.map (Value.int k)) HO ad 1 1 [.int k y] rfl hnews h1c hroom
      have ho : OwI w' base e k (.slice (some ⟨g, 0, none⟩) (l.length + 1) cap) (l ++ [y]) := (show w'.ownsRow _ _ _ _ _ _ by simpa using h2)
      refine ⟨_, cap, w', hr, ho, h3, .inl rfl, fun g' j hg' hj => ?_⟩
      obtain rfl : g = g' := by simpa [Value.ownBlock] using hg'
      have h5 := World.ownsRow.cells (g := g) ho rfl j (.int k (l.getD j 0)) (by simp [List.getElem?_append_left, hj, List.getElem?_eq_getElem hj, List.getD_eq_getElem?_getD])
      rwa [add0] at h5
    · obtain ⟨v', w', hr, h2, h3⟩ := run_append_arg_grows (P := P) W t ty e i0 (.int k 0) 1 bytes ht hi hz0 hz1 hz2 rfl (by omega) ⟨g, 0, none⟩ l.length cap (l.map (Value.int k)) (by simp) (fun j u hu => World.ownsRow.cells (g := g) HO rfl j u hu) ad 1 1 [.int k y] rfl hnews (by omega) (by simp only [maxLen]; omega) hl
      have ho : OwI w' W.heap.size e k v' (l ++ [y]) := (show w'.ownsRow _ _ _ _ _ _ by simpa using h2)
      obtain ⟨A1, c1, rfl⟩ := ho.form
      simp only [List.length_append, List.length_cons, List.length_nil, Nat.zero_add] at hr ho
      have hAb : ∃ b, (Value.slice A1 (l.length + 1) c1).ownBlock = some b ∧ W.heap.size ≤ b := by
        rcases ho.2 with ⟨e0, h0⟩ | ⟨b, cap', cur', e0, hb, _⟩
        · simp at h0
        · rw [e0]; exact ⟨b, rfl, hb⟩
      refine ⟨A1, c1, w', hr, ho.lower hbase, ⟨h3.os, h3.tape, h3.output, h3.size, fun i hi _ => h3.block i hi (by simp)⟩, .inr hAb, fun g' j hg' hj => ?_⟩
      obtain rfl : g = g' := by simpa [Value.ownBlock] using hg'
      have hc := old g cap rfl j hj
      rw [← hc]
      exact World.cell?_of_block (a := ⟨g, j, none⟩) (h3.block g (World.block_lt_of_cell? W ⟨g, j, none⟩ hc) (by simp))
theorem ap_keep {P : Program} {ops : Array Oper} {rest : List Oper} {o : Oper} {a : Act} {Q : Exit → Act → World → Prop} {W : World} (base : Nat) (hgd : o.guard = none) (s x : Operand) (t e : TypeId) (k : IntKind) (bytes : Nat)
    (ho : o.op = .call { callee := .builtin .append, args := #[s, x], argTypes := #[t, t] })
    (ht : P.underlying t = some (.slice e)) (hinfo : (P.info? e).map (fun i => (i.zero, i.size, i.bytes)) = some (some (.int k 0), 1, bytes)) (hb0 : 0 < bytes)
    (v : Value) (l : List Int) (y : Int) (hs : a.eval s = v) (hx : a.eval x = .slice (some ⟨W.heap.size, 0, none⟩) 1 1)
    (HO : OwI W base e k v l) (hbase : base ≤ W.heap.size) (hl : (l.length + 1) * bytes ≤ 140737488355328)
    (N : Nat) (hN : l.length + 1 = N) (h : ∀ A1 c1 w1, Hid (OwI w1 base e k (.slice A1 N c1) (l ++ [y])) → Hid (W.grownBy w1 v.ownBlock) → Hid ((Value.slice A1 N c1).ownBlock = v.ownBlock ∨ ∃ b, (Value.slice A1 N c1).ownBlock = some b ∧ W.heap.size ≤ b) →
      Hid (∀ g j, v.ownBlock = some g → j < l.length → w1.cell? ⟨g, j, none⟩ = some (.int k (l.getD j 0))) → wpList P ops Q rest (a.put o.dst (.slice A1 N c1)) w1) :
    wpList P ops Q (o :: rest) a (W.alloc (.cells #[.int k y] e)) := by
  subst hN
  obtain ⟨A1, c1, w1, hr, h2, h3, h4, h5⟩ := run_keep (P := P) (W := W.alloc (.cells #[.int k y] e)) base t o.type e k bytes ht hinfo hb0 v l y ⟨W.heap.size, 0, none⟩ (by rw [cell_of_row _ W.heap.size 0 #[.int k y] e (0, 0) (heap_alloc_new W _)]; rfl) (HO.below (bl1 _)) (by simp; omega) hl
  refine wpList_plain hgd fun K hK => ?_
  unfold Oper.wp execOp
  simp only [ho, resolve, invoke, builtin, Sem.run_bind, Sem.run_pure, Result.andThen_ok, List.map_toArray, List.map_cons, List.map_nil, hs, hx, hr]
  refine hK _ _ (h A1 c1 w1 h2 (World.grownBy.trans (World.grownBy_alloc W _ _) h3) ?_ h5)
  rcases h4 with h4 | ⟨b, h4, h6⟩
  · exact .inl h4
  · exact .inr ⟨b, h4, by simp at h6; omega⟩
/-- a store into an own row of numbers -/
theorem OwI.set {w : World} {base g : Nat} {E : TypeId} {k : IntKind} {n c : Nat} {l : List Int} (h : OwI w base E k (.slice (some ⟨g, 0, none⟩) n c) l) (j : Nat) (b : Int) : OwI (w.setCell ⟨g, j, none⟩ (.int k b)) base E k (.slice (some ⟨g, 0, none⟩) n c) (l.set j b) := by
  obtain ⟨h1, h2⟩ := h
  rcases h2 with ⟨h2, _⟩ | ⟨g', cap, cur, hv, a, hh, b1, b2, b3, b4⟩
  · cases h2
  · injection hv with e1 e2 e3
    injection e1 with e1
    injection e1 with e1 _
    subst e1
    refine ⟨by simp, .inr ⟨g, cap, cur.setIfInBounds j (.int k b), by rw [List.length_set, e2, e3], a, blk_set hh j _, by simpa using b1, b2, by simpa using b3, ?_⟩⟩
    rw [Array.toList_setIfInBounds, List.length_set, List.map_set, ← b4, List.take_set]
end Go.Proofs.Ytehcimecmbcdfaa
