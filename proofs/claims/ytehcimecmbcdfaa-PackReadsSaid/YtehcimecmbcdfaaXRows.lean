/- Rows of numbers that are read, and rows of the call's own. -/
import Derived.Test.YtehcimecmbcdfaaXBits
import Derived.Laws.OwnMore
import Derived.Deep.AppendLies
import Derived.Laws.AppendOwnNone
set_option linter.unusedSimpArgs false
set_option linter.unusedVariables false
namespace Go.Proofs.Ytehcimecmbcdfaa
open Go.RowKit

/-- A slice of numbers that is read (nil, empty and other slices alike). -/
def RdI (w : World) (k : IntKind) (A : Option Addr) (l : List Int) : Prop :=
  l.length ≤ 9223372036854775807 ∧ (0 < l.length → ∃ ad, A = some ad ∧ ∀ j, j < l.length → w.cell? (ad.add j) = some (.int k (l.getD j 0)))
theorem RdI.at_ {w : World} {k : IntKind} {A : Option Addr} {l : List Int} (h : RdI w k A l) (i : Nat) (hi : i < l.length) : ∃ ad, A = some ad ∧ w.cell? (ad.add i) = some (.int k (l.getD i 0)) := by
  obtain ⟨ad, e, hc⟩ := h.2 (by omega)
  exact ⟨ad, e, hc i hi⟩
theorem RdI.below {w w1 : World} {k : IntKind} {A : Option Addr} {l : List Int} (h : RdI w k A l) (hb : Below w.heap.size w w1) : RdI w1 k A l :=
  ⟨h.1, fun hn => by
    obtain ⟨ad, e, hc⟩ := h.2 hn
    exact ⟨ad, e, fun j hj => keepc hb (hc j hj)⟩⟩
theorem RdI.nil (w : World) (k : IntKind) (A : Option Addr) : RdI w k A [] := ⟨by simp, fun h => by simp at h⟩
/-- The same of a slice value. -/
def RdS (w : World) (k : IntKind) (v : Value) (l : List Int) : Prop := ∃ A c, v = .slice A l.length c ∧ l.length ≤ c ∧ (A = none → c = 0) ∧ RdI w k A l
theorem RdS.below {w w1 : World} {k : IntKind} {v : Value} {l : List Int} (h : RdS w k v l) (hb : Below w.heap.size w w1) : RdS w1 k v l := by
  obtain ⟨A, c, h1, h2, h3, h4⟩ := h
  exact ⟨A, c, h1, h2, h3, h4.below hb⟩
theorem RdS.nil (w : World) (k : IntKind) : RdS w k (.slice none 0 0) [] := ⟨none, 0, rfl, Nat.le_refl _, fun _ => rfl, RdI.nil _ _ _⟩
/-- A slice of numbers of the call's own, from block 'base' on. -/
def OwI (w : World) (base : Nat) (E : TypeId) (k : IntKind) (v : Value) (l : List Int) : Prop := w.ownsRow base E 1 v l.length (l.map (Value.int k))
theorem OwI.nil (w : World) (base : Nat) (E : TypeId) (k : IntKind) : OwI w base E k (.slice none 0 0) [] := ⟨by simp, .inl ⟨rfl, rfl⟩⟩
theorem OwI.below {w w1 : World} {base : Nat} {E : TypeId} {k : IntKind} {v : Value} {l : List Int} (h : OwI w base E k v l) (hb : Below w.heap.size w w1) : OwI w1 base E k v l :=
  World.ownsRow.kept h (row := none) ⟨hb.os, hb.tape, hb.output, hb.size, fun i hi _ => hb.block i hi⟩ (by cases v.ownBlock <;> simp)
theorem OwI.lower {w : World} {base base' : Nat} {E : TypeId} {k : IntKind} {v : Value} {l : List Int} (h : OwI w base E k v l) (hb : base' ≤ base) : OwI w base' E k v l := by
  obtain ⟨h1, h2⟩ := h
  refine ⟨h1, ?_⟩
  rcases h2 with h2 | ⟨g, cap, cur, a, b, c⟩
  · exact .inl h2
  · exact .inr ⟨g, cap, cur, a, by omega, c⟩
theorem OwI.rd {w : World} {base : Nat} {E : TypeId} {k : IntKind} {v : Value} {l : List Int} (h : OwI w base E k v l) : RdS w k v l := by
  rcases Nat.eq_zero_or_pos l.length with h0 | h0
  · have hl : l = [] := List.eq_nil_of_length_eq_zero h0
    subst hl
    rcases h.2 with ⟨rfl, -⟩ | ⟨g, cap, cur, rfl, -, -, h3, -⟩
    · exact RdS.nil _ _
    · exact ⟨_, cap, rfl, h3, (fun h => by cases h), RdI.nil _ _ _⟩
  · rcases h.2 with ⟨rfl, h1⟩ | ⟨g, cap, cur, rfl, h1, h2, h3, h4, h5, h6⟩
    · omega
    · refine ⟨_, cap, rfl, h3, (fun h => by cases h), by simp only [maxLen] at h4; omega, fun _ => ⟨_, rfl, fun j hj => ?_⟩⟩
      have hc := World.ownsRow.cells (g := g) h rfl j (.int k (l.getD j 0)) (by simp [List.getElem?_eq_getElem hj, List.getD_eq_getElem?_getD])
      exact hc
theorem OwI.form {w : World} {base : Nat} {E : TypeId} {k : IntKind} {v : Value} {l : List Int} (h : OwI w base E k v l) : ∃ A c, v = .slice A l.length c := by
  obtain ⟨A, c, h1, -⟩ := h.rd
  exact ⟨A, c, h1⟩
theorem OwI.blockGe {w : World} {base : Nat} {E : TypeId} {k : IntKind} {v : Value} {l : List Int} (h : OwI w base E k v l) : ∀ b, v.ownBlock = some b → base ≤ b ∧ b < w.heap.size := by
  intro b hb
  rcases h.2 with ⟨rfl, _⟩ | ⟨g, cap, cur, rfl, h1, hh, _⟩
  · simp [Value.ownBlock] at hb
  · have : g = b := by simpa [Value.ownBlock] using hb
    subst this
    exact ⟨h1, (Array.getElem?_eq_some_iff.1 hh).1⟩

theorem add0 (g j : Nat) : (⟨g, 0, none⟩ : Addr).add j = ⟨g, j, none⟩ := by unfold Addr.add; split <;> simp_all
/-- A literal of the call's own. -/
theorem OwI.lit {W : World} {base : Nat} {E : TypeId} {k : IntKind} (l : List Int) (hb : base ≤ W.heap.size) (hm : l.length ≤ 9223372036854775807) :
    OwI (W.alloc (.cells (l.map (Value.int k)).toArray E)) base E k (.slice (some ⟨W.heap.size, 0, none⟩) l.length l.length) l := by
  refine ⟨by simp, .inr ⟨W.heap.size, l.length, (l.map (Value.int k)).toArray, rfl, hb, heap_alloc_new W _, Nat.le_refl _, by simp only [maxLen]; omega, by simp, ?_⟩⟩
  simp only [Nat.mul_one]
  exact List.take_of_length_le (by simp)

/-- append(s, y): y in a literal row that the statement has just made. -/
theorem ap_one {P : Program} {ops : Array Oper} {rest : List Oper} {o : Oper} {a : Act} {Q : Exit → Act → World → Prop} {W : World} (base : Nat) (hgd : o.guard = none) (s x : Operand) (t e : TypeId) (k : IntKind) (bytes : Nat)
    (ho : o.op = .call { callee := .builtin .append, args := #[s, x], argTypes := #[t, t] })
    (ht : P.underlying t = some (.slice e)) (hinfo : (P.info? e).map (fun i => (i.zero, i.size, i.bytes)) = some (some (.int k 0), 1, bytes)) (hb0 : 0 < bytes)
    (v : Value) (l : List Int) (y : Int) (hs : a.eval s = v) (hx : a.eval x = .slice (some ⟨W.heap.size, 0, none⟩) 1 1)
    (HO : OwI W base e k v l) (hbase : base ≤ W.heap.size) (hl : (l.length + 1) * bytes ≤ 140737488355328)
    (N : Nat) (hN : l.length + 1 = N) (h : ∀ A1 c1 w1, Hid (OwI w1 base e k (.slice A1 N c1) (l ++ [y])) → Hid (W.grownBy w1 v.ownBlock) → Hid ((Value.slice A1 N c1).ownBlock = v.ownBlock ∨ ∃ b, (Value.slice A1 N c1).ownBlock = some b ∧ W.heap.size ≤ b) → wpList P ops Q rest (a.put o.dst (.slice A1 N c1)) w1) :
    wpList P ops Q (o :: rest) a (W.alloc (.cells #[.int k y] e)) := by
  obtain ⟨i0, hi, hz0, hz1, hz2⟩ := info_parts hinfo
  have hlen : l.length + 1 ≤ 140737488355328 := Nat.le_trans (Nat.le_mul_of_pos_right _ hb0) hl
  refine wpList_append_own_at (W.alloc (.cells #[.int k y] e)) hgd s x t ho base e i0 (.int k 0) 1 bytes ht hi hz0 hz1 hz2 rfl (by omega) v l.length (l.map (Value.int k)) hs (World.ownsRow.alloc HO _) ⟨W.heap.size, 0, none⟩ 1 1 [.int k y] hx rfl
    (World.news_of_block (cs := #[.int k y]) (t := e) (fr := (0, 0)) (heap_alloc_new W _)) (by intro u hu; simp at hu; subst hu; rfl) (by simp only [maxLen]; omega) hl (by simp; omega) ?_
  intro v1 w1 hown hg _ hat
  have ho2 : OwI w1 base e k v1 (l ++ [y]) := (show w1.ownsRow _ _ _ _ _ _ by simpa using hown)
  obtain ⟨A1, c1, rfl⟩ := ho2.form
  obtain rfl : (l ++ [y]).length = N := by rw [List.length_append, ← hN]; rfl
  refine h A1 c1 w1 ho2 (World.grownBy.trans (World.grownBy_alloc W _ _) hg) ?_
  rcases hat with hat | hat
  · exact .inl hat
  · exact .inr ⟨_, hat, by simp⟩
/-- append(s, ys...): ys a row that is read in the world at hand: the run. -/
theorem run_ap_row {P : Program} {W : World} (base : Nat) (t ty e : TypeId) (k : IntKind) (bytes : Nat)
    (ht : P.underlying t = some (.slice e)) (hinfo : (P.info? e).map (fun i => (i.zero, i.size, i.bytes)) = some (some (.int k 0), 1, bytes)) (hb0 : 0 < bytes)
    (v : Value) (l : List Int) (vx : Value) (ys : List Int)
    (HO : OwI W base e k v l) (HR : RdS W k vx ys) (hbase : base ≤ W.heap.size) (hl : (l.length + ys.length) * bytes ≤ 140737488355328) :
    ∃ v1 w1, (Builtin.append_ #[t, t] ty #[v, vx]).run P W = .ok v1 w1 ∧ Hid (OwI w1 base e k v1 (l ++ ys)) ∧ Hid (W.grownBy w1 v.ownBlock) ∧ Hid (v1.ownBlock = v.ownBlock ∨ ∃ b, v1.ownBlock = some b ∧ W.heap.size ≤ b) := by
  obtain ⟨i0, hi, hz0, hz1, hz2⟩ := info_parts hinfo
  have hlen : l.length + ys.length ≤ 140737488355328 := Nat.le_trans (Nat.le_mul_of_pos_right _ hb0) hl
  obtain ⟨B, c, rfl, hc1, hc2, HR⟩ := HR
  cases B with
  | some ad =>
    have hc : ∀ j u, (ys.map (Value.int k))[j]? = some u → W.cell? (ad.add j) = some u := by
      intro j u hu
      have hj : j < ys.length := by
        have := (List.getElem?_eq_some_iff.1 hu).1
        simpa using this
      obtain ⟨ad', e', hc⟩ := HR.at_ j hj
      obtain rfl := Option.some.inj e'
      rw [hc]
      simp [List.getElem?_eq_getElem hj] at hu
      rw [← hu]
      simp [List.getElem?_eq_getElem hj, List.getD_eq_getElem?_getD]
    obtain ⟨v', w', hr, h2, h3, h4, h5⟩ := run_append_own_at (P := P) W base t ty e i0 (.int k 0) 1 bytes ht hi hz0 hz1 hz2 rfl (by omega) v l.length (l.map (Value.int k)) HO ad ys.length c (ys.map (Value.int k)) (by simp) hc
      (by intro u hu; simp at hu; obtain ⟨y, _, rfl⟩ := hu; rfl) (by simp only [maxLen]; omega) hl hbase
    refine ⟨v', w', hr, (show w'.ownsRow _ _ _ _ _ _ by simpa using h2), h3, ?_⟩
    rcases h5 with h5 | h5
    · exact .inl h5
    · exact .inr ⟨_, h5, Nat.le_refl _⟩
  | none =>
    have h0 : ys = [] := by
      cases ys with
      | nil => rfl
      | cons y ys => obtain ⟨ad, e', _⟩ := HR.at_ 0 (by simp); cases e'
    subst h0
    obtain rfl := hc2 rfl
    exact ⟨v, W, run_append_owned_none W base t ty e i0 1 ht hi v l.length (l.map (Value.int k)) HO, (show OwI W base e k v (l ++ []) by rw [List.append_nil]; exact HO), ⟨rfl, rfl, rfl, Nat.le_refl _, fun _ _ _ => rfl⟩, .inl rfl⟩
theorem wp_ap_row {P : Program} {o : Oper} {a : Act} {K : Act → World → Prop} {Q : Exit → Act → World → Prop} {W : World} (base : Nat) (s x : Operand) (t e : TypeId) (k : IntKind) (bytes : Nat)
    (ho : o.op = .call { callee := .builtin .append, args := #[s, x], argTypes := #[t, t] })
    (ht : P.underlying t = some (.slice e)) (hinfo : (P.info? e).map (fun i => (i.zero, i.size, i.bytes)) = some (some (.int k 0), 1, bytes)) (hb0 : 0 < bytes)
    (v : Value) (l : List Int) (vx : Value) (ys : List Int) (hs : a.eval s = v) (hx : a.eval x = vx)
    (HO : OwI W base e k v l) (HR : RdS W k vx ys) (hbase : base ≤ W.heap.size) (hl : (l.length + ys.length) * bytes ≤ 140737488355328)
    (N : Nat) (hN : l.length + ys.length = N) (h : ∀ A1 c1 w1, Hid (OwI w1 base e k (.slice A1 N c1) (l ++ ys)) → Hid (W.grownBy w1 v.ownBlock) → Hid ((Value.slice A1 N c1).ownBlock = v.ownBlock ∨ ∃ b, (Value.slice A1 N c1).ownBlock = some b ∧ W.heap.size ≤ b) → K (a.put o.dst (.slice A1 N c1)) w1) : o.wp P a W K Q := by
  obtain ⟨v1, w1, hr, h2, h3, h4⟩ := run_ap_row base t o.type e k bytes ht hinfo hb0 v l vx ys HO HR hbase hl
  unfold Oper.wp execOp
  simp only [ho, resolve, invoke, builtin, Sem.run_bind, Sem.run_pure, Result.andThen_ok, List.map_toArray, List.map_cons, List.map_nil, hs, hx, hr]
  obtain ⟨A1, c1, rfl⟩ := OwI.form h2.out
  obtain rfl : (l ++ ys).length = N := by rw [List.length_append, hN]
  exact h A1 c1 w1 h2 h3 h4
theorem ap_row {P : Program} {ops : Array Oper} {rest : List Oper} {o : Oper} {a : Act} {Q : Exit → Act → World → Prop} {W : World} (base : Nat) (hgd : o.guard = none) (s x : Operand) (t e : TypeId) (k : IntKind) (bytes : Nat)
    (ho : o.op = .call { callee := .builtin .append, args := #[s, x], argTypes := #[t, t] })
    (ht : P.underlying t = some (.slice e)) (hinfo : (P.info? e).map (fun i => (i.zero, i.size, i.bytes)) = some (some (.int k 0), 1, bytes)) (hb0 : 0 < bytes)
    (v : Value) (l : List Int) (vx : Value) (ys : List Int) (hs : a.eval s = v) (hx : a.eval x = vx)
    (HO : OwI W base e k v l) (HR : RdS W k vx ys) (hbase : base ≤ W.heap.size) (hl : (l.length + ys.length) * bytes ≤ 140737488355328)
    (N : Nat) (hN : l.length + ys.length = N) (h : ∀ A1 c1 w1, Hid (OwI w1 base e k (.slice A1 N c1) (l ++ ys)) → Hid (W.grownBy w1 v.ownBlock) → Hid ((Value.slice A1 N c1).ownBlock = v.ownBlock ∨ ∃ b, (Value.slice A1 N c1).ownBlock = some b ∧ W.heap.size ≤ b) → wpList P ops Q rest (a.put o.dst (.slice A1 N c1)) w1) :
    wpList P ops Q (o :: rest) a W :=
  wpList_plain hgd fun _ hK => wp_ap_row base s x t e k bytes ho ht hinfo hb0 v l vx ys hs hx HO HR hbase hl N hN fun A1 c1 w1 h2 h3 h4 => hK _ _ (h A1 c1 w1 h2 h3 h4)
/-- at a step of a region that draws its order -/
theorem step_ap_row {P : Program} {ops : Array Oper} {o : Oper} {a : Act} {K : Act → World → Prop} {Q : Exit → Act → World → Prop} {E : Prop} {W : World} (base : Nat) (hgd : o.guard = none) (s x : Operand) (t e : TypeId) (k : IntKind) (bytes : Nat)
    (ho : o.op = .call { callee := .builtin .append, args := #[s, x], argTypes := #[t, t] })
    (ht : P.underlying t = some (.slice e)) (hinfo : (P.info? e).map (fun i => (i.zero, i.size, i.bytes)) = some (some (.int k 0), 1, bytes)) (hb0 : 0 < bytes)
    (v : Value) (l : List Int) (vx : Value) (ys : List Int) (hs : a.eval s = v) (hx : a.eval x = vx)
    (HO : OwI W base e k v l) (HR : RdS W k vx ys) (hbase : base ≤ W.heap.size) (hl : (l.length + ys.length) * bytes ≤ 140737488355328)
    (N : Nat) (hN : l.length + ys.length = N) (h : ∀ A1 c1 w1, Hid (OwI w1 base e k (.slice A1 N c1) (l ++ ys)) → Hid (W.grownBy w1 v.ownBlock) → Hid ((Value.slice A1 N c1).ownBlock = v.ownBlock ∨ ∃ b, (Value.slice A1 N c1).ownBlock = some b ∧ W.heap.size ≤ b) → K (a.put o.dst (.slice A1 N c1)) w1) :
    if Region.wanted o (yielded ops a.tmps) = true then Oper.wp P o a W K Q else E := by
  have hw : Region.wanted o (yielded ops a.tmps) = true := by simp [Region.wanted, hgd]
  rw [if_pos hw]
  exact wp_ap_row base s x t e k bytes ho ht hinfo hb0 v l vx ys hs hx HO HR hbase hl N hN h

/-! a cut of a slice -/
theorem RdI.cut {w : World} {k : IntKind} {A : Option Addr} {l : List Int} (h : RdI w k A l) (lo hi c : Nat) (h1 : lo ≤ hi) (h2 : hi ≤ l.length) (hc : l.length ≤ c) :
    RdI w k (if c = lo then A else A.map (·.add lo)) ((l.take hi).drop lo) := by
  refine ⟨by rw [List.length_drop, List.length_take]; have := h.1; omega, fun hp => ?_⟩
  rw [List.length_drop, List.length_take] at hp
  obtain ⟨ad, rfl, hcell⟩ := h.2 (by omega)
  rw [if_neg (by omega)]
  refine ⟨ad.add lo, rfl, fun j hj => ?_⟩
  rw [List.length_drop, List.length_take] at hj
  have ha : (ad.add lo).add j = ad.add (lo + j) := by
    unfold Addr.add
    by_cases h1 : lo = 0 <;> by_cases h2 : j = 0 <;> simp [h1, h2, Nat.add_assoc]
  rw [ha, hcell (lo + j) (by omega)]
  simp [List.getD_eq_getElem?_getD, List.getElem?_drop, List.getElem?_take, show lo + j < hi by omega]
section
variable {P : Program} (t e : TypeId) {i : TypeInfo} (ht : P.underlying t = some (.slice e)) (hi : P.info? e = some i) (hsz : i.size = 1)
include ht hi hsz
/-- 's[lo:hi]': ahead of the walk: the run, and what is read. -/
theorem cut_lh (A : Option Addr) (c : Nat) (l : List Int) (lo up : Nat) (h1 : lo ≤ up) (h2 : up ≤ l.length) (hc : l.length ≤ c) (hA : A = none → c = 0) :
    ∃ A' c', (∀ W : World, (Instr.slice t (.slice A l.length c) (some (.int .i64 (lo : Int))) (some (.int .i64 (up : Int))) none).run P W = .ok (.slice A' (up - lo) c') W) ∧
      ∀ (w : World) (k : IntKind), RdI w k A l → RdS w k (.slice A' (up - lo) c') ((l.take up).drop lo) := by
  refine ⟨if c = lo then A else A.map (·.add lo), c - lo, fun W => ?_, fun w k h => ?_⟩
  · have hel : P.elem t = e := by simp [Program.elem, ht]
    have hu : P.underlying t = some (.slice (P.elem t)) := by rw [hel]; exact ht
    rw [run_slice_lh W t A l.length c hu .i64 .i64 (lo : Int) (up : Int) (Int.natCast_nonneg _) (by omega) (by omega), hel]
    simp [sizeOf, typeInfo, hi, hsz, sliced, Result.andThen]
  · refine ⟨_, _, by rw [List.length_drop, List.length_take, Nat.min_eq_left h2], by rw [List.length_drop, List.length_take]; omega, fun hn => ?_, h.cut lo up c h1 h2 hc⟩
    by_cases hcl : c = lo
    · omega
    · rw [if_neg hcl] at hn
      cases A with
      | none => have := hA rfl; omega
      | some a => cases hn
/-- 's[:hi]' -/
theorem cut_h (A : Option Addr) (c : Nat) (l : List Int) (up : Nat) (h2 : up ≤ l.length) (hc : l.length ≤ c) (hA : A = none → c = 0) :
    ∃ A' c', (∀ W : World, (Instr.slice t (.slice A l.length c) none (some (.int .i64 (up : Int))) none).run P W = .ok (.slice A' up c') W) ∧
      ∀ (w : World) (k : IntKind), RdI w k A l → RdS w k (.slice A' up c') (l.take up) := by
  refine ⟨if c = 0 then A else A.map (·.add 0), c, fun W => ?_, fun w k h => ?_⟩
  · have hel : P.elem t = e := by simp [Program.elem, ht]
    have hu : P.underlying t = some (.slice (P.elem t)) := by rw [hel]; exact ht
    rw [run_slice_h W t A l.length c hu .i64 (up : Int) (Int.natCast_nonneg _) (by omega), hel]
    simp [sizeOf, typeInfo, hi, hsz, sliced, Result.andThen]
  · have h3 := h.cut 0 up c (Nat.zero_le _) h2 hc
    rw [List.drop_zero] at h3
    refine ⟨_, _, by rw [List.length_take, Nat.min_eq_left h2], by rw [List.length_take]; omega, fun hn => ?_, h3⟩
    by_cases hcl : c = 0
    · exact hcl
    · rw [if_neg hcl] at hn
      cases A with
      | none => exact hA rfl
      | some a => cases hn
end
end Go.Proofs.Ytehcimecmbcdfaa
