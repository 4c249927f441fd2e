/- The bytes of register codes, plainly. -/
import Derived.Test.YtehcimecmbcdfaaXArgs
import Derived.Test.YtehcimecmbcdfaaXCode2
set_option linter.unusedSimpArgs false
set_option linter.unusedVariables false
namespace Go.Proofs.Ytehcimecmbcdfaa
open Go.RowKit

def natL (n : Int) : List Int := if n < 0 then [] else vint n.toNat
def encA (i : Nat) (n : Ins) : List Int := n.args.flatMap fun a => natL ((i : Int) - 1 - a)
def encT (n : Ins) : List Int :=
  if n.op = 1 ∨ n.op = 32 then vint (zig n.k)
  else if n.op = 2 ∨ n.op = 3 ∨ n.op = 29 ∨ n.op = 30 then [n.k]
  else if n.op = 31 then natL n.k
  else if n.op = 33 then natL n.k ++ [n.s]
  else []
def encI (i : Nat) (n : Ins) : List Int := n.op :: (encA i n ++ encT n)
def encL (l : List Ins) (t : Nat) : List Int := (List.range t).flatMap fun i => encI i (l.getD i zIns)
def encC (f d : Int) (l : List Ins) (out : Int) : List Int := [1, f, d] ++ natL (l.length : Int) ++ encL l l.length ++ natL ((l.length : Int) - 1 - out)
theorem encL_succ (l : List Ins) (t : Nat) : encL l (t + 1) = encL l t ++ encI t (l.getD t zIns) := by unfold encL; rw [List.range_succ, List.flatMap_append]; simp
theorem natL_nat (n : Nat) : natL (n : Int) = vint n := by unfold natL; rw [if_neg (by omega)]; simp
theorem natL_len {n : Int} (h : n < 9223372036854775808) : (natL n).length ≤ 10 := by
  unfold natL; split
  · simp
  · exact vint_len10 (by omega)
/-! what a permitted instruction holds -/
theorem mayI_parts {n : Ins} {p : Int} (h : mayI n p = true) : 0 ≤ ar n.op ∧ consts n.op n.k n.s = true ∧ regOk (ar n.op) 0 n.a p = true ∧ regOk (ar n.op) 1 n.b p = true ∧ regOk (ar n.op) 2 n.c p = true ∧ insTail n = true := by
  unfold mayI at h
  simp only [Bool.and_eq_true, decide_eq_true_eq] at h
  obtain ⟨⟨⟨h1, h2⟩, ⟨h3, h4⟩, h5⟩, h6⟩ := h
  exact ⟨h1, h2, h3, h4, h5, h6⟩
theorem ar_dom {op : Int} (h : 0 ≤ ar op) : 1 ≤ op ∧ op ≤ 33 ∧ op ≠ 4 := by
  unfold ar at h
  by_cases h0 : op < 1 ∨ op = 4 ∨ 33 < op
  · rw [if_pos h0] at h; omega
  · omega
theorem mayI_op {n : Ins} {p : Int} (h : mayI n p = true) : 1 ≤ n.op ∧ n.op ≤ 33 ∧ n.op ≠ 4 := ar_dom (mayI_parts h).1
theorem regOk_lt {A : Int} {j : Nat} {x p : Int} (h : regOk A j x p = true) (hj : (j : Int) < A) : 0 ≤ x ∧ x < p := by
  unfold regOk at h; rw [if_pos hj] at h; exact of_decide_eq_true h
theorem mem_take3 {a b c x : Int} {A : Int} (h : x ∈ [a, b, c].take A.toNat) : (0 < A ∧ x = a) ∨ (1 < A ∧ x = b) ∨ (2 < A ∧ x = c) := by
  by_cases h0 : A ≤ 0
  · rw [show A.toNat = 0 by omega] at h; simp at h
  by_cases h1 : A = 1
  · subst h1; simp at h; exact .inl ⟨by omega, h⟩
  by_cases h2 : A = 2
  · subst h2; simp at h; rcases h with h | h
    · exact .inl ⟨by omega, h⟩
    · exact .inr (.inl ⟨by omega, h⟩)
  · have h3 := List.mem_of_mem_take h
    simp at h3
    rcases h3 with h | h | h
    · exact .inl ⟨by omega, h⟩
    · exact .inr (.inl ⟨by omega, h⟩)
    · exact .inr (.inr ⟨by omega, h⟩)
theorem mayI_args {n : Ins} {p : Int} (h : mayI n p = true) : ∀ a ∈ n.args, 0 ≤ a ∧ a < p := by
  obtain ⟨h1, h2, h3, h4, h5, h6⟩ := mayI_parts h
  intro a ha
  rcases mem_take3 ha with ⟨g, rfl⟩ | ⟨g, rfl⟩ | ⟨g, rfl⟩
  · exact regOk_lt h3 (by omega)
  · exact regOk_lt h4 (by omega)
  · exact regOk_lt h5 (by omega)
theorem args_len (n : Ins) : n.args.length ≤ 3 := by unfold Ins.args; rw [List.length_take]; simp; omega
theorem mayI_k2 {n : Ins} {p : Int} (h : mayI n p = true) (ho : n.op = 2 ∨ n.op = 3 ∨ n.op = 29 ∨ n.op = 30) : 0 ≤ n.k ∧ n.k ≤ 255 := by
  obtain ⟨h1, h2, h3, h4, h5, h6⟩ := mayI_parts h
  unfold insTail at h6
  unfold consts at h2
  rcases ho with ho | ho | ho | ho <;> rw [ho] at h2 h6 <;> simp at h2 h6 <;> omega
theorem mayI_k31 {n : Ins} {p : Int} (h : mayI n p = true) (ho : n.op = 31) : 0 ≤ n.k ∧ n.k ≤ 2147483647 := by
  obtain ⟨h1, h2, h3, h4, h5, h6⟩ := mayI_parts h
  unfold consts at h2
  rw [ho] at h2; simp at h2; omega
theorem mayI_k33 {n : Ins} {p : Int} (h : mayI n p = true) (ho : n.op = 33) : 1 ≤ n.k ∧ n.k ≤ 4611686018427387904 ∧ 0 ≤ n.s ∧ n.s ≤ 62 := by
  obtain ⟨h1, h2, h3, h4, h5, h6⟩ := mayI_parts h
  unfold consts at h2
  rw [ho] at h2; simp at h2; omega
theorem mayI_word {n : Ins} {p : Int} (h : mayI n p = true) (ho : n.op = 1 ∨ n.op = 32) : -2147483648 ≤ n.k ∧ n.k ≤ 2147483647 := by
  obtain ⟨h1, h2, h3, h4, h5, h6⟩ := mayI_parts h
  unfold consts at h2
  unfold insTail at h6
  rcases ho with ho | ho <;> rw [ho] at h2 h6 <;> simp [wordB] at h2 h6 <;> omega
theorem flatMap_len (l : List Int) (g : Int → List Int) (N : Nat) (h : ∀ a ∈ l, (g a).length ≤ N) : (l.flatMap g).length ≤ l.length * N := by
  induction l with
  | nil => simp
  | cons x l ih =>
    rw [List.flatMap_cons, List.length_append, List.length_cons, Nat.succ_mul]
    have h1 := h x List.mem_cons_self
    have h2 := ih fun a ha => h a (List.mem_cons_of_mem _ ha)
    omega
theorem encI_len {n : Ins} {i : Nat} (h : mayI n i = true) (hi : i ≤ 200) (hk : In64 n.k) : (encI i n).length ≤ 42 := by
  have ha : (encA i n).length ≤ 30 := by
    have := flatMap_len n.args (fun a => natL ((i : Int) - 1 - a)) 10 (fun a ha => natL_len (by have := mayI_args h a ha; omega))
    have h3 := args_len n
    unfold encA
    omega
  have ht : (encT n).length ≤ 11 := by
    unfold encT
    split
    · have := vint_len10 (zig_lt (n := n.k) hk); omega
    · split
      · simp
      · split
        · have := natL_len (n := n.k) (by have := hk.2; omega); omega
        · split
          · rw [List.length_append]; have := natL_len (n := n.k) (by have := hk.2; omega); simp; omega
          · simp
  unfold encI
  rw [List.length_cons, List.length_append]
  omega
theorem encL_len {l : List Ins} {N : Nat} (h : ∀ i, i < N → mayI (l.getD i zIns) i = true ∧ In64 (l.getD i zIns).k) (hN : N ≤ 200) : ∀ t, t ≤ N → (encL l t).length ≤ t * 42
  | 0, _ => by simp [encL]
  | t + 1, ht => by
    have ih := encL_len h hN t (by omega)
    have := encI_len (h t (by omega)).1 (by omega) (h t (by omega)).2
    rw [encL_succ, List.length_append, Nat.succ_mul]
    omega
theorem flatMap_take_succ (l : List Int) (g : Int → List Int) (k : Nat) (h : k < l.length) : (l.take (k + 1)).flatMap g = (l.take k).flatMap g ++ g (l.getD k 0) := by
  rw [List.take_succ_eq_append_getElem h, List.flatMap_append, List.getD_eq_getElem?_getD, List.getElem?_eq_getElem h]
  simp
theorem getD_mem {l : List Int} {k : Nat} (h : k < l.length) : l.getD k 0 ∈ l := by
  rw [List.getD_eq_getElem?_getD, List.getElem?_eq_getElem h]; exact List.getElem_mem h
theorem OwI.grown {w w1 : World} {base base' : Nat} {E E' : TypeId} {k k' : IntKind} {v u : Value} {l m : List Int} (h : OwI w base E k v l) (hu : OwI w base' E' k' u m) (hE : E ≠ E') (hg : w.grownBy w1 u.ownBlock) : OwI w1 base E k v l := by
  refine h.kp (S := fun g => u.ownBlock = some g) ⟨hg.os, hg.tape, hg.output, hg.size, fun i hi hn => hg.block i hi (fun e => hn e.symm)⟩ fun g hv e => ?_
  obtain ⟨cs, hcs⟩ := hu.heap e
  exact h.ne hcs (Ne.symm hE) hv
theorem RdS.at_ {w : World} {k : IntKind} {A : Option Addr} {n c : Nat} {l : List Int} (h : RdS w k (.slice A n c) l) (i : Nat) (hi : i < l.length) : ∃ ad, A = some ad ∧ w.cell? (ad.add i) = some (.int k (l.getD i 0)) := by
  obtain ⟨A', c', e, h2, h3, h4⟩ := h
  injection e with e1 e2 e3
  subst e1
  exact h4.at_ i hi
theorem lit_rd {W : World} {E : TypeId} {k : IntKind} (l : List Int) (hm : l.length ≤ 9223372036854775807) : RdS (W.alloc (.cells (l.map (Value.int k)).toArray E)) k (.slice (some ⟨W.heap.size, 0, none⟩) l.length l.length) l :=
  OwI.rd (base := 0) (E := E) (OwI.lit l (Nat.zero_le _) hm)
/-- a row that is read, behind an append to another one -/
theorem RdS.far {w w1 : World} {k : IntKind} {v : Value} {l : List Int} {ub : Option Nat} (h : RdS w k v l) (hg : w.grownBy w1 ub) (hne : ∀ g, v.ownBlock = some g → ub ≠ some g) : RdS w1 k v l := by
  obtain ⟨A, c, rfl, h2, h3, h4⟩ := h
  refine ⟨A, c, rfl, h2, h3, h4.1, fun hn => ?_⟩
  obtain ⟨ad, rfl, hc⟩ := h4.2 hn
  refine ⟨ad, rfl, fun j hj => ?_⟩
  rw [← hc j hj]
  refine World.cell?_of_block (hg.block _ (World.block_lt_of_cell? w _ (hc j hj)) ?_)
  have : (ad.add j).block = ad.block := by unfold Addr.add; split <;> rfl
  rw [this]
  exact fun e => hne ad.block rfl e.symm
theorem RdS.far_lit {w w1 wr : World} {base : Nat} {E : TypeId} {k k' : IntKind} {u : Value} {l y : List Int} {g n c : Nat} (h : RdS w k' (.slice (some ⟨g, 0, none⟩) n c) y) (hg : w.grownBy w1 u.ownBlock) (ho : OwI wr base E k u l) (hlt : wr.heap.size ≤ g) : RdS w1 k' (.slice (some ⟨g, 0, none⟩) n c) y :=
  h.far hg (fun g' hg' e => by have := (ho.blockGe g' e).2; simp [Value.ownBlock] at hg'; omega)
/-- step_ap_row, the values as the frame holds them -/
theorem step_ap_row2 {P : Program} {ops : Array Oper} {o : Oper} {a : Act} {K : Act → World → Prop} {Q : Exit → Act → World → Prop} {E : Prop} {W : World} (base : Nat) (hgd : o.guard = none) (s x : Operand) (t e : TypeId) (k : IntKind) (bytes : Nat)
    (ho : o.op = .call { callee := .builtin .append, args := #[s, x], argTypes := #[t, t] })
    (ht : P.underlying t = some (.slice e)) (hinfo : (P.info? e).map (fun i => (i.zero, i.size, i.bytes)) = some (some (.int k 0), 1, bytes)) (hb0 : 0 < bytes)
    (l : List Int) (ys : List Int) (N : Nat)
    (HO : OwI W base e k (a.eval s) l) (HR : RdS W k (a.eval x) ys) (hbase : base ≤ W.heap.size) (hl : (l.length + ys.length) * bytes ≤ 140737488355328)
    (hN : l.length + ys.length = N) (h : ∀ A1 c1 w1, Hid (OwI w1 base e k (.slice A1 N c1) (l ++ ys)) → Hid (W.grownBy w1 (a.eval s).ownBlock) → Hid ((Value.slice A1 N c1).ownBlock = (a.eval s).ownBlock ∨ ∃ b, (Value.slice A1 N c1).ownBlock = some b ∧ W.heap.size ≤ b) → K (a.put o.dst (.slice A1 N c1)) w1) :
    if Region.wanted o (yielded ops a.tmps) = true then Oper.wp P o a W K Q else E :=
  step_ap_row base hgd s x t e k bytes ho ht hinfo hb0 _ l _ ys rfl rfl HO HR hbase hl N hN h
/-- ap_one, the new block's number spelled otherwise -/
theorem ap_oneg {P : Program} {ops : Array Oper} {rest : List Oper} {o : Oper} {a : Act} {Q : Exit → Act → World → Prop} {W : World} (base g : Nat) (hgs : W.heap.size = g) (hgd : o.guard = none) (s x : Operand) (t e : TypeId) (k : IntKind) (bytes : Nat)
    (ho : o.op = .call { callee := .builtin .append, args := #[s, x], argTypes := #[t, t] })
    (ht : P.underlying t = some (.slice e)) (hinfo : (P.info? e).map (fun i => (i.zero, i.size, i.bytes)) = some (some (.int k 0), 1, bytes)) (hb0 : 0 < bytes)
    (v : Value) (l : List Int) (y : Int) (hs : a.eval s = v) (hx : a.eval x = .slice (some ⟨g, 0, none⟩) 1 1)
    (HO : OwI W base e k v l) (hbase : base ≤ W.heap.size) (hl : (l.length + 1) * bytes ≤ 140737488355328)
    (N : Nat) (hN : l.length + 1 = N) (h : ∀ A1 c1 w1, Hid (OwI w1 base e k (.slice A1 N c1) (l ++ [y])) → Hid (W.grownBy w1 v.ownBlock) → Hid ((Value.slice A1 N c1).ownBlock = v.ownBlock ∨ ∃ b, (Value.slice A1 N c1).ownBlock = some b ∧ W.heap.size ≤ b) → wpList P ops Q rest (a.put o.dst (.slice A1 N c1)) w1) :
    wpList P ops Q (o :: rest) a (W.alloc (.cells #[.int k y] e)) := by
  subst hgs
  exact ap_one base hgd s x t e k bytes ho ht hinfo hb0 v l y hs hx HO hbase hl N hN h
end Go.Proofs.Ytehcimecmbcdfaa
