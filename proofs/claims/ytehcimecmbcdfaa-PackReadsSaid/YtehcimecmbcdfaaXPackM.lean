/- The plain law of codes as bytes: whole codes. -/
import Derived.Test.YtehcimecmbcdfaaXPackL
import Derived.Test.YtehcimecmbcdfaaXLaw19a
set_option linter.unusedSimpArgs false
set_option linter.unusedVariables false
namespace Go.Proofs.Ytehcimecmbcdfaa
open Go.RowKit

def stepN (k : Nat) (acc : List Ins) (σ : Tk) : List Ins × Tk := if σ.e = 0 then (acc ++ [(decI σ k).1], (decI σ k).2) else (acc, σ)
theorem decN_seq (σ : Tk) (k : Nat) : decN σ (k + 1) = seqT (fun σ => decN σ k) (stepN k) σ := rfl
theorem stepN_stays (k : Nat) (a : List Ins) : Stays (stepN k a) := fun σ h => by unfold stepN; rw [if_neg h]
theorem decN_stays (k : Nat) : Stays (fun σ => decN σ k) := fun σ h => by
  show (decN σ k).2 = σ
  rw [decN_stop' (k := 0) (σ := σ) (n := k) h (Nat.zero_le _)]
  rfl
theorem stepN_reads {n : Ins} {k : Nat} (acc : List Ins) (h : mayI n k = true) (hk : k ≤ 200) : Reads (stepN k acc) (encI k n) (acc ++ [n]) := by
  have hr := decT_reads h hk
  constructor
  · intro rest
    have := hr.1 rest
    unfold stepN
    simp only [if_true, decI_eq, this]
  · intro u v huv hv
    have := hr.2 u v huv hv
    unfold stepN
    simp only [if_true, decI_eq]
    exact this
theorem decN_reads {l : List Ins} (hall : ∀ i, i < l.length → mayI (l.getD i zIns) i = true) (hN : l.length ≤ 200) : ∀ k, k ≤ l.length → Reads (fun σ => decN σ k) (encL l k) (l.take k)
  | 0, _ => by
    have : encL l 0 = [] := by simp [encL]
    rw [this, List.take_zero]
    exact Reads.pure []
  | k + 1, hk => by
    have ih := decN_reads hall hN k (by omega)
    have h1 := ih.seq (stepN_reads (l.take k) (hall k (by omega)) (by omega)) (fun a => stepN_stays k a)
    rw [encL_succ]
    have e : l.take (k + 1) = l.take k ++ [l.getD k zIns] := by
      rw [List.take_succ_eq_append_getElem (by omega), List.getD_eq_getElem?_getD, List.getElem?_eq_getElem (by omega)]; rfl
    rw [e]
    exact h1
def failT (b : Bool) (x : Int) (σ : Tk) : Unit × Tk := ((), σ.fail b x)
theorem failT_stays (b : Bool) (x : Int) : Stays (failT b x) := fun σ h => by
  unfold failT Tk.fail; simp only; rw [if_neg (fun hh => h hh.2)]
theorem failT_reads (x : Int) : Reads (failT false x) [] () := by
  have e : failT false x = fun σ => ((), σ) := by funext σ; unfold failT Tk.fail; simp
  rw [e]; exact Reads.pure ()
abbrev CodT := Int × Int × List Ins × Int
def decP : Tk → CodT × Tk :=
  seqT (fun σ => σ.rd byteOf) fun v => seqT (failT (decide (v ≠ 1)) 3) fun _ => seqT (fun σ => σ.rd byteOf) fun f => seqT (fun σ => σ.rd byteOf) fun d => seqT (fun σ => σ.rd uintOf) fun m =>
    seqT (failT (decide (m < 1 ∨ 200 < m)) 15) fun _ => seqT (fun σ => decN σ m.toNat) fun l => seqT (fun σ => σ.reg m) fun o σ => ((f, d, l, o), σ)
theorem decP_eq (l : List Int) : decP ⟨l, 0⟩ = (((d2 l).1, (d3 l).1, (d6 l).1, (d7 l).1), (d7 l).2) := rfl
theorem decP_reads {f d : Int} {l : List Ins} {out : Int} (h : mayC f d l out = true) : Reads decP (encC f d l out) (f, d, l, out) := by
  obtain ⟨hk, h1, h2, h3, h4, hall⟩ := mayC_parts h
  have e : encC f d l out = [1] ++ ([] ++ ([f] ++ ([d] ++ (natL (l.length : Int) ++ ([] ++ (encL l l.length ++ (natL ((l.length : Int) - 1 - out) ++ []))))))) := by
    unfold encC; simp
  rw [e]
  have t1 : Reads (seqT (fun σ => σ.reg (l.length : Int)) fun o σ => ((f, d, l, o), σ)) (natL ((l.length : Int) - 1 - out) ++ []) (f, d, l, out) :=
    (reg_reads (l.length : Int) out h3 h4 (by omega)).seq (Reads.pure _) (fun _ => Stays.pure _)
  have t2 : Reads (fun σ => decN σ (l.length : Int).toNat) (encL l l.length) l := by
    have := decN_reads (fun i hi => allMay_at hall i hi) h2 l.length (Nat.le_refl _)
    rw [List.take_length] at this
    simpa using this
  have s1 : ∀ (f d m : Int) (l : List Ins), Stays (seqT (fun σ => σ.reg m) fun o σ => (((f, d, l, o) : CodT), σ)) := fun f d m l => (Stays.reg _).seq fun _ => Stays.pure _
  have s2 : ∀ (f d m : Int), Stays (seqT (fun σ => decN σ m.toNat) fun l => seqT (fun σ => σ.reg m) fun o σ => (((f, d, l, o) : CodT), σ)) := fun f d m => (decN_stays _).seq fun l => s1 f d m l
  have s3 : ∀ (f d m : Int), Stays (seqT (failT (decide (m < 1 ∨ 200 < m)) 15) fun _ => seqT (fun σ => decN σ m.toNat) fun l => seqT (fun σ => σ.reg m) fun o σ => (((f, d, l, o) : CodT), σ)) := fun f d m => (failT_stays _ _).seq fun _ => s2 f d m
  have t3 := t2.seq t1 (fun a => s1 f d _ a)
  have t4 : Reads (failT (decide ((l.length : Int) < 1 ∨ 200 < (l.length : Int))) 15) [] () := by rw [decide_eq_false (by omega)]; exact failT_reads 15
  have t5 := t4.seq t3 (fun _ => s2 f d _)
  have t6 := (natL_reads (l.length : Int) (by omega) (by omega)).seq (G := fun m => seqT (failT (decide (m < 1 ∨ 200 < m)) 15) fun _ => seqT (fun σ => decN σ m.toNat) fun l => seqT (fun σ => σ.reg m) fun o σ => (((f, d, l, o) : CodT), σ)) t5 (fun m => s3 f d m)
  have s4 : ∀ (f d : Int), Stays (seqT (fun σ => σ.rd uintOf) fun m => seqT (failT (decide (m < 1 ∨ 200 < m)) 15) fun _ => seqT (fun σ => decN σ m.toNat) fun l => seqT (fun σ => σ.reg m) fun o σ => (((f, d, l, o) : CodT), σ)) := fun f d => (Stays.rd _).seq fun m => s3 f d m
  have t7 := (byteOf_reads d).seq (G := fun d => seqT (fun σ => σ.rd uintOf) fun m => seqT (failT (decide (m < 1 ∨ 200 < m)) 15) fun _ => seqT (fun σ => decN σ m.toNat) fun l => seqT (fun σ => σ.reg m) fun o σ => (((f, d, l, o) : CodT), σ)) t6 (fun d => s4 f d)
  have s5 : ∀ (f : Int), Stays (seqT (fun σ => σ.rd byteOf) fun d => seqT (fun σ => σ.rd uintOf) fun m => seqT (failT (decide (m < 1 ∨ 200 < m)) 15) fun _ => seqT (fun σ => decN σ m.toNat) fun l => seqT (fun σ => σ.reg m) fun o σ => (((f, d, l, o) : CodT), σ)) := fun f => (Stays.rd _).seq fun d => s4 f d
  have t8 := (byteOf_reads f).seq (G := fun f => seqT (fun σ => σ.rd byteOf) fun d => seqT (fun σ => σ.rd uintOf) fun m => seqT (failT (decide (m < 1 ∨ 200 < m)) 15) fun _ => seqT (fun σ => decN σ m.toNat) fun l => seqT (fun σ => σ.reg m) fun o σ => (((f, d, l, o) : CodT), σ)) t7 (fun f => s5 f)
  have s6 : Stays (seqT (fun σ => σ.rd byteOf) fun f => seqT (fun σ => σ.rd byteOf) fun d => seqT (fun σ => σ.rd uintOf) fun m => seqT (failT (decide (m < 1 ∨ 200 < m)) 15) fun _ => seqT (fun σ => decN σ m.toNat) fun l => seqT (fun σ => σ.reg m) fun o σ => (((f, d, l, o) : CodT), σ)) := (Stays.rd _).seq fun f => s5 f
  have t9 : Reads (failT (decide ((1 : Int) ≠ 1)) 3) [] () := by rw [decide_eq_false (by omega)]; exact failT_reads 3
  have t10 := t9.seq t8 (fun _ => s6)
  exact (byteOf_reads 1).seq (G := fun v => seqT (failT (decide (v ≠ 1)) 3) fun _ => seqT (fun σ => σ.rd byteOf) fun f => seqT (fun σ => σ.rd byteOf) fun d => seqT (fun σ => σ.rd uintOf) fun m => seqT (failT (decide (m < 1 ∨ 200 < m)) 15) fun _ => seqT (fun σ => decN σ m.toNat) fun l => seqT (fun σ => σ.reg m) fun o σ => (((f, d, l, o) : CodT), σ)) t10 (fun v => (failT_stays _ _).seq fun _ => s6)
/-! what follows for whole codes -/
theorem decC_tail {f d : Int} {l : List Ins} {out : Int} (h : mayC f d l out = true) (more : List Int) (hl : (encC f d l out ++ more).length ≤ 4096) :
    decC (encC f d l out ++ more) = if 0 < more.length then (⟨0, 0, [], 0⟩, 5) else (⟨f, d, l, out⟩, 0) := by
  have h1 := (decP_reads h).1 more
  rw [decP_eq] at h1
  have e := Prod.mk.inj h1
  have e1 := Prod.mk.inj e.1
  have e2 := Prod.mk.inj e1.2
  have e3 := Prod.mk.inj e2.2
  have h8 : d8 (encC f d l out ++ more) = if 0 < more.length then 5 else 0 := by unfold d8; rw [e.2]; rfl
  unfold decC
  rw [if_neg (by omega)]
  by_cases hm : 0 < more.length
  · rw [if_pos hm] at h8 ⊢
    have h9 : d9 (encC f d l out ++ more) = 5 := by unfold d9; rw [h8]; rfl
    rw [h9]; rfl
  · rw [if_neg hm] at h8 ⊢
    have h9 : d9 (encC f d l out ++ more) = 0 := by unfold d9; rw [h8, if_pos rfl, e1.1, e2.1, e3.1, e3.2, h]; rfl
    rw [h9, if_pos rfl, e1.1, e2.1, e3.1, e3.2]
theorem decC_cut {f d : Int} {l : List Ins} {out : Int} (h : mayC f d l out = true) (u v : List Int) (huv : u ++ v = encC f d l out) (hv : v ≠ []) (hl : u.length ≤ 4096) : decC u = (⟨0, 0, [], 0⟩, 2) := by
  have h1 := (decP_reads h).2 u v huv hv
  rw [decP_eq] at h1
  have h2 : (d7 u).2.e = 2 := h1
  have h8 : d8 u = 2 := by unfold d8; rw [if_neg (by rw [h2]; decide), h2]
  have h9 : d9 u = 2 := by unfold d9; rw [h8]; rfl
  unfold decC
  rw [if_neg (by omega), h9]; rfl
theorem natL_len2 {n : Int} (h : n < 16384) : (natL n).length ≤ 2 := by
  unfold natL; split
  · simp
  · exact vint_len 1 _ (by omega)
theorem vint_pos (x : Nat) : 1 ≤ (vint x).length := by rw [vint]; split <;> simp
theorem natL_pos {n : Int} (h : 0 ≤ n) : 1 ≤ (natL n).length := by unfold natL; rw [if_neg (by omega)]; exact vint_pos _
theorem encI_len18 {n : Ins} {i : Nat} (h : mayI n i = true) (hi : i ≤ 200) (hk : In64 n.k) : (encI i n).length ≤ 18 ∧ 1 ≤ (encI i n).length := by
  have ha : (encA i n).length ≤ 6 := by
    have := flatMap_len n.args (fun a => natL ((i : Int) - 1 - a)) 2 (fun a ha => natL_len2 (by have := mayI_args h a ha; omega))
    have h3 := args_len n
    unfold encA
    omega
  have ht : (encT n).length ≤ 11 := by
    unfold encT
    split
    · have := vint_len10 (zig_lt (n := n.k) hk); omega
    · split
      · simp
      · split
        · have := natL_len (n := n.k) (by have := hk.2; omega); omega
        · split
          · rw [List.length_append]; have := natL_len (n := n.k) (by have := hk.2; omega); simp; omega
          · simp
  unfold encI
  rw [List.length_cons, List.length_append]
  omega
theorem encL_len18 {l : List Ins} {N : Nat} (h : ∀ i, i < N → mayI (l.getD i zIns) i = true ∧ In64 (l.getD i zIns).k) (hN : N ≤ 200) : ∀ t, t ≤ N → (encL l t).length ≤ t * 18 ∧ t ≤ (encL l t).length
  | 0, _ => by simp [encL]
  | t + 1, ht => by
    have ih := encL_len18 h hN t (by omega)
    have := encI_len18 (h t (by omega)).1 (by omega) (h t (by omega)).2
    rw [encL_succ, List.length_append, Nat.succ_mul]
    omega
theorem encC_len {f d : Int} {l : List Ins} {out : Int} (h : mayC f d l out = true) (hw : wfL l) : (encC f d l out).length ≤ 4096 ∧ 5 < (encC f d l out).length := by
  obtain ⟨h0, h1, h2, h3, h4, hall⟩ := mayC_parts h
  have e1 := encL_len18 (l := l) (N := l.length) (fun i hi => ⟨allMay_at hall i hi, (hw.at_ i hi).k⟩) h2 l.length (Nat.le_refl _)
  have e2 := natL_len2 (n := (l.length : Int)) (by omega)
  have e3 := natL_len2 (n := (l.length : Int) - 1 - out) (by omega)
  have p2 := natL_pos (n := (l.length : Int)) (by omega)
  have p3 := natL_pos (n := (l.length : Int) - 1 - out) (by omega)
  unfold encC
  rw [List.length_append, List.length_append, List.length_append]
  simp only [List.length_cons, List.length_nil]
  omega
end Go.Proofs.Ytehcimecmbcdfaa
