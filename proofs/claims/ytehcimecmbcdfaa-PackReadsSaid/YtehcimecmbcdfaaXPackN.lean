/- The plain law of codes as bytes: one form; bytes of a code are bytes. -/
import Derived.Test.YtehcimecmbcdfaaXPackM
import Derived.Deep.Slices
set_option linter.unusedSimpArgs false
set_option linter.unusedVariables false
namespace Go.Proofs.Ytehcimecmbcdfaa
open Go.RowKit

def Backs {α : Type} (F : Tk → α × Tk) (P : α → List Int → Prop) : Prop := ∀ t, Byt t → (F ⟨t, 0⟩).2.e = 0 → ∃ p rest, P (F ⟨t, 0⟩).1 p ∧ t = p ++ rest ∧ (F ⟨t, 0⟩).2 = ⟨rest, 0⟩
theorem Backs.seq {α β : Type} {F : Tk → α × Tk} {G : α → Tk → β × Tk} {P : α → List Int → Prop} {Q : α → β → List Int → Prop} (hF : Backs F P) (hG : ∀ a, Backs (G a) (Q a)) (hs : ∀ a, Stays (G a)) :
    Backs (seqT F G) (fun y p => ∃ a p1 p2, P a p1 ∧ Q a y p2 ∧ p = p1 ++ p2) := by
  intro t ht he
  unfold seqT at he ⊢
  have h0 : (F ⟨t, 0⟩).2.e = 0 := by
    by_cases h : (F ⟨t, 0⟩).2.e = 0
    · exact h
    · rw [hs _ _ h] at he; exact absurd he h
  obtain ⟨p, rest, h1, h2, h3⟩ := hF t ht h0
  rw [h3] at he ⊢
  obtain ⟨p', rest', h4, h5, h6⟩ := hG (F ⟨t, 0⟩).1 rest (fun c hc => ht c (by rw [h2]; exact List.mem_append_right _ hc)) he
  exact ⟨p ++ p', rest', ⟨_, p, p', h1, h4, rfl⟩, by rw [h2, h5, List.append_assoc], h6⟩
theorem Backs.pure {α : Type} (x : α) : Backs (fun σ => (x, σ)) (fun y p => y = x ∧ p = []) := fun t _ _ => ⟨[], t, ⟨rfl, rfl⟩, rfl, rfl⟩
theorem Backs.imp {α : Type} {F : Tk → α × Tk} {P Q : α → List Int → Prop} (h : Backs F P) (hi : ∀ y p, P y p → Q y p) : Backs F Q := fun t ht he => by
  obtain ⟨p, rest, h1, h2⟩ := h t ht he
  exact ⟨p, rest, hi _ _ h1, h2⟩
theorem Backs.rd {g : List Int → Int × Nat × Int} {P : Int → List Int → Prop} (h : ∀ t, Byt t → (g t).2.2 = 0 → P (g t).1 (t.take (g t).2.1)) : Backs (fun σ => σ.rd g) P := by
  intro t ht he
  have e1 : (⟨t, 0⟩ : Tk).rd g = ((g t).1, ⟨t.drop (g t).2.1, (g t).2.2⟩) := by unfold Tk.rd; simp
  simp only at he
  rw [e1] at he
  simp only at he
  refine ⟨t.take (g t).2.1, t.drop (g t).2.1, ?_, (List.take_append_drop _ _).symm, ?_⟩
  · show P ((⟨t, 0⟩ : Tk).rd g).1 _; rw [e1]; exact h t ht he
  · show ((⟨t, 0⟩ : Tk).rd g).2 = _; rw [e1, he]
theorem backs_b : Backs (fun σ => σ.rd byteOf) (fun c p => p = [c]) := Backs.rd fun t ht he => by
  cases t with
  | nil => simp [byteOf] at he
  | cons c t => rfl
theorem backs_u : Backs (fun σ => σ.rd uintOf) (fun x p => 0 ≤ x ∧ p = natL x) := Backs.rd fun t ht he => by
  unfold uintOf at he ⊢
  cases h : vread t with
  | short => rw [h] at he; simp at he
  | form => rw [h] at he; simp at he
  | ok x n =>
    rw [h] at he
    simp only at he ⊢
    by_cases hx : x < 9223372036854775808
    · rw [if_pos hx]
      simp only
      exact ⟨by omega, by rw [natL_nat]; exact vread_vint ht h⟩
    · rw [if_neg hx] at he; simp at he
theorem backs_s : Backs (fun σ => σ.rd sintOf) (fun x p => p = vint (zig x)) := Backs.rd fun t ht he => by
  unfold sintOf at he ⊢
  cases h : vread t with
  | short => rw [h] at he; simp at he
  | form => rw [h] at he; simp at he
  | ok x n =>
    simp only
    rw [zig_unzig]
    exact vread_vint ht h
theorem backs_reg (m : Int) : Backs (fun σ => σ.reg m) (fun a p => p = natL (m - 1 - a)) := by
  intro t ht he
  have e1 : (⟨t, 0⟩ : Tk).reg m = (m - 1 - ((⟨t, 0⟩ : Tk).rd uintOf).1, ((⟨t, 0⟩ : Tk).rd uintOf).2.fail (decide (m ≤ ((⟨t, 0⟩ : Tk).rd uintOf).1)) 15) := rfl
  simp only at he
  rw [e1] at he
  have h0 : ((⟨t, 0⟩ : Tk).rd uintOf).2.e = 0 ∧ ((⟨t, 0⟩ : Tk).rd uintOf).2.fail (decide (m ≤ ((⟨t, 0⟩ : Tk).rd uintOf).1)) 15 = ((⟨t, 0⟩ : Tk).rd uintOf).2 := by
    unfold Tk.fail at he ⊢
    by_cases hb : decide (m ≤ ((⟨t, 0⟩ : Tk).rd uintOf).1) = true ∧ ((⟨t, 0⟩ : Tk).rd uintOf).2.e = 0
    · rw [if_pos hb] at he; simp at he
    · rw [if_neg hb] at he ⊢; exact ⟨he, rfl⟩
  obtain ⟨p, rest, h1, h2, h3⟩ := backs_u t ht h0.1
  refine ⟨p, rest, ?_, h2, ?_⟩
  · show p = natL (m - 1 - ((⟨t, 0⟩ : Tk).reg m).1)
    rw [e1]
    simp only
    have := h1.2
    simp only at this
    rw [this]
    congr 1
    omega
  · show ((⟨t, 0⟩ : Tk).reg m).2 = _
    rw [e1]; simp only; rw [h0.2]; exact h3
theorem backs_regIf (b : Prop) [Decidable b] (i : Int) : Backs (regIf b i) (fun a p => p = regL b i a) := by
  unfold regIf regL
  by_cases hb : b
  · simp only [if_pos hb]; exact backs_reg i
  · simp only [if_neg hb]; exact (Backs.pure 0).imp fun y p h => h.2
theorem backs_cst (o : Int) : Backs (cstOf o) (fun k p => p = if howN o = 1 then vint (zig k) else if howN o = 2 then [k] else if howN o = 3 ∨ howN o = 4 then natL k else []) := by
  unfold cstOf
  by_cases h1 : howN o = 1
  · simp only [if_pos h1]; exact backs_s
  · by_cases h2 : howN o = 2
    · simp only [if_neg h1, if_pos h2]; exact backs_b
    · by_cases h3 : howN o = 3 ∨ howN o = 4
      · simp only [if_neg h1, if_neg h2, if_pos h3]; exact backs_u.imp fun y p h => h.2
      · simp only [if_neg h1, if_neg h2, if_neg h3]; exact (Backs.pure 0).imp fun y p h => h.2
theorem backs_shf (o : Int) : Backs (shfOf o) (fun s p => p = if howN o = 4 then [s] else []) := by
  unfold shfOf
  by_cases h4 : howN o = 4
  · simp only [if_pos h4]; exact backs_b
  · simp only [if_neg h4]; exact (Backs.pure 0).imp fun y p h => h.2
theorem backs_decT (i : Nat) : Backs (decT i) (fun n p => p = encI i n) := by
  have t6 := fun o a b c k => (backs_shf o).seq (G := fun s σ => ((⟨o, a, b, c, k, s⟩ : Ins), σ)) (fun s => Backs.pure _) (fun _ => Stays.pure _)
  have s6 := fun (o a b c k : Int) => (Stays.shfOf o).seq (G := fun s σ => ((⟨o, a, b, c, k, s⟩ : Ins), σ)) fun _ => Stays.pure _
  have t5 := fun o a b c => (backs_cst o).seq (fun k => t6 o a b c k) (fun k => s6 o a b c k)
  have s5 := fun (o a b c : Int) => (Stays.cstOf o).seq fun k => s6 o a b c k
  have t4 := fun o a b => (backs_regIf (2 < ar o) i).seq (fun c => t5 o a b c) (fun c => s5 o a b c)
  have s4 := fun (o a b : Int) => (Stays.regIf (2 < ar o) i).seq fun c => s5 o a b c
  have t3 := fun o a => (backs_regIf (1 < ar o) i).seq (fun b => t4 o a b) (fun b => s4 o a b)
  have s3 := fun (o a : Int) => (Stays.regIf (1 < ar o) i).seq fun b => s4 o a b
  have t2 := fun o => (backs_regIf (0 < ar o) i).seq (fun a => t3 o a) (fun a => s3 o a)
  have s2 := fun (o : Int) => (Stays.regIf (0 < ar o) i).seq fun a => s3 o a
  have t1 := backs_b.seq (fun o => t2 o) (fun o => s2 o)
  refine Backs.imp t1 fun n p h => ?_
  obtain ⟨o, p1, q1, rfl, ⟨a, p2, q2, rfl, ⟨b, p3, q3, rfl, ⟨c, p4, q4, rfl, ⟨k, p5, q5, rfl, ⟨s, p6, q6, rfl, ⟨rfl, rfl⟩, rfl⟩, rfl⟩, rfl⟩, rfl⟩, rfl⟩, rfl⟩ := h
  unfold encI
  rw [encA_eq, encT_eq]
  unfold cstL shfL
  simp
theorem encL_app (acc : List Ins) (n : Ins) : encL (acc ++ [n]) (acc.length + 1) = encL acc acc.length ++ encI acc.length n := by
  rw [encL_succ]
  congr 1
  · unfold encL
    refine Go.Deep.flatMap_congr_range fun i hi => ?_
    rw [List.getD_eq_getElem?_getD, List.getD_eq_getElem?_getD, List.getElem?_append_left hi]
  · rw [List.getD_eq_getElem?_getD, List.getElem?_append_right (Nat.le_refl _), Nat.sub_self]; rfl
theorem backs_stepN (k : Nat) (acc : List Ins) : Backs (stepN k acc) (fun a p => ∃ n, a = acc ++ [n] ∧ p = encI k n) := by
  intro t ht he
  have e1 : stepN k acc ⟨t, 0⟩ = (acc ++ [(decT k ⟨t, 0⟩).1], (decT k ⟨t, 0⟩).2) := by unfold stepN; simp [decI_eq]
  rw [e1] at he ⊢
  obtain ⟨p, rest, h1, h2, h3⟩ := backs_decT k t ht he
  exact ⟨p, rest, ⟨_, rfl, h1⟩, h2, h3⟩
theorem backs_decN : ∀ k : Nat, Backs (fun σ => decN σ k) (fun a p => a.length = k ∧ p = encL a k)
  | 0 => (Backs.pure ([] : List Ins)).imp fun y p h => by obtain ⟨rfl, rfl⟩ := h; exact ⟨rfl, by simp [encL]⟩
  | k + 1 => by
    have h1 := (backs_decN k).seq (fun a => backs_stepN k a) (fun a => stepN_stays k a)
    refine Backs.imp (F := fun σ => decN σ (k + 1)) h1 fun y p h => ?_
    obtain ⟨a, p1, p2, ⟨rfl, rfl⟩, ⟨n, rfl, rfl⟩, rfl⟩ := h
    exact ⟨by simp, (encL_app a n).symm⟩
theorem backs_fail (b : Bool) (x : Int) (hx : x ≠ 0) : Backs (failT b x) (fun _ p => b = false ∧ p = []) := by
  intro t ht he
  unfold failT Tk.fail at he ⊢
  simp only at he ⊢
  cases b with
  | false => exact ⟨[], t, ⟨rfl, rfl⟩, rfl, by simp⟩
  | true => simp at he; exact absurd he hx
theorem backs_decP : Backs decP (fun y p => p = encC y.1 y.2.1 y.2.2.1 y.2.2.2) := by
  have s1 : ∀ (f d m : Int) (l : List Ins), Stays (seqT (fun σ => σ.reg m) fun o σ => (((f, d, l, o) : CodT), σ)) := fun f d m l => (Stays.reg _).seq fun _ => Stays.pure _
  have s2 : ∀ (f d m : Int), Stays (seqT (fun σ => decN σ m.toNat) fun l => seqT (fun σ => σ.reg m) fun o σ => (((f, d, l, o) : CodT), σ)) := fun f d m => (decN_stays _).seq fun l => s1 f d m l
  have s3 : ∀ (f d m : Int), Stays (seqT (failT (decide (m < 1 ∨ 200 < m)) 15) fun _ => seqT (fun σ => decN σ m.toNat) fun l => seqT (fun σ => σ.reg m) fun o σ => (((f, d, l, o) : CodT), σ)) := fun f d m => (failT_stays _ _).seq fun _ => s2 f d m
  have s4 : ∀ (f d : Int), Stays (seqT (fun σ => σ.rd uintOf) fun m => seqT (failT (decide (m < 1 ∨ 200 < m)) 15) fun _ => seqT (fun σ => decN σ m.toNat) fun l => seqT (fun σ => σ.reg m) fun o σ => (((f, d, l, o) : CodT), σ)) := fun f d => (Stays.rd _).seq fun m => s3 f d m
  have s5 : ∀ (f : Int), Stays (seqT (fun σ => σ.rd byteOf) fun d => seqT (fun σ => σ.rd uintOf) fun m => seqT (failT (decide (m < 1 ∨ 200 < m)) 15) fun _ => seqT (fun σ => decN σ m.toNat) fun l => seqT (fun σ => σ.reg m) fun o σ => (((f, d, l, o) : CodT), σ)) := fun f => (Stays.rd _).seq fun d => s4 f d
  have s6 : Stays (seqT (fun σ => σ.rd byteOf) fun f => seqT (fun σ => σ.rd byteOf) fun d => seqT (fun σ => σ.rd uintOf) fun m => seqT (failT (decide (m < 1 ∨ 200 < m)) 15) fun _ => seqT (fun σ => decN σ m.toNat) fun l => seqT (fun σ => σ.reg m) fun o σ => (((f, d, l, o) : CodT), σ)) := (Stays.rd _).seq fun f => s5 f
  have t1 := fun (f d m : Int) (l : List Ins) => (backs_reg m).seq (G := fun o σ => (((f, d, l, o) : CodT), σ)) (fun o => Backs.pure _) (fun _ => Stays.pure _)
  have t2 := fun (f d m : Int) => (backs_decN m.toNat).seq (fun l => t1 f d m l) (fun l => s1 f d m l)
  have t3 := fun (f d m : Int) => (backs_fail (decide (m < 1 ∨ 200 < m)) 15 (by decide)).seq (fun _ => t2 f d m) (fun _ => s2 f d m)
  have t4 := fun (f d : Int) => backs_u.seq (fun m => t3 f d m) (fun m => s3 f d m)
  have t5 := fun (f : Int) => backs_b.seq (fun d => t4 f d) (fun d => s4 f d)
  have t6 := backs_b.seq (fun f => t5 f) (fun f => s5 f)
  have t7 := fun (v : Int) => (backs_fail (decide (v ≠ 1)) 3 (by decide)).seq (fun _ => t6) (fun _ => s6)
  have t8 := backs_b.seq (G := fun v => seqT (failT (decide (v ≠ 1)) 3) fun _ => seqT (fun σ => σ.rd byteOf) fun f => seqT (fun σ => σ.rd byteOf) fun d => seqT (fun σ => σ.rd uintOf) fun m => seqT (failT (decide (m < 1 ∨ 200 < m)) 15) fun _ => seqT (fun σ => decN σ m.toNat) fun l => seqT (fun σ => σ.reg m) fun o σ => (((f, d, l, o) : CodT), σ)) (fun v => t7 v) (fun v => (failT_stays _ _).seq fun _ => s6)
  refine Backs.imp t8 fun y p h => ?_
  obtain ⟨v, p1, q1, rfl, ⟨_, p2, q2, ⟨hv, rfl⟩, ⟨f, p3, q3, rfl, ⟨d, p4, q4, rfl, ⟨m, p5, q5, ⟨hm0, rfl⟩, ⟨_, p6, q6, ⟨hm, rfl⟩, ⟨l, p7, q7, ⟨hl, rfl⟩, ⟨o, p8, q8, rfl, ⟨rfl, rfl⟩, rfl⟩, rfl⟩, rfl⟩, rfl⟩, rfl⟩, rfl⟩, rfl⟩, rfl⟩ := h
  have hv1 : v = 1 := by simpa using hv
  have hm1 := of_decide_eq_false hm
  have hml : m = (l.length : Int) := by omega
  subst hv1 hml
  simp only [encC, Int.toNat_natCast]
  simp
/-- what is read as a code is that code's bytes -/
theorem decC_one {l : List Int} {c : Cod} (hb : Byt l) (h : decC l = (c, 0)) : mayC c.f c.d c.l c.out = true ∧ encC c.f c.d c.l c.out = l := by
  unfold decC at h
  by_cases h4 : 4096 < l.length
  · rw [if_pos h4] at h
    have := congrArg Prod.snd h
    simp at this
  · rw [if_neg h4] at h
    by_cases h9 : d9 l = 0
    · rw [if_pos h9] at h
      have hc := congrArg Prod.fst h
      simp only at hc
      subst hc
      simp only
      unfold d9 at h9
      by_cases h8 : d8 l = 0
      · rw [if_pos h8] at h9
        have hm : mayC (d2 l).1 (d3 l).1 (d6 l).1 (d7 l).1 = true := by
          cases hh : mayC (d2 l).1 (d3 l).1 (d6 l).1 (d7 l).1 with
          | true => rfl
          | false => rw [hh] at h9; exact absurd h9 (by decide)
        refine ⟨hm, ?_⟩
        unfold d8 at h8
        by_cases he : (d7 l).2.e = 0
        · rw [if_pos he] at h8
          have ht : ¬ 0 < (d7 l).2.t.length := fun hh => by rw [if_pos hh] at h8; exact absurd h8 (by decide)
          obtain ⟨p, rest, h1, h2, h3⟩ := backs_decP l hb (by rw [decP_eq]; exact he)
          rw [decP_eq] at h1 h3
          simp only at h1 h3
          have hr : rest = [] := by
            rw [h3] at ht
            exact List.eq_nil_of_length_eq_zero (by simpa using ht)
          rw [← h1, h2, hr, List.append_nil]
        · rw [if_neg he] at h8; exact absurd h8 he
      · rw [if_neg h8] at h9; exact absurd h9 h8
    · rw [if_neg h9] at h
      have := congrArg Prod.snd h
      exact absurd this h9
theorem decC_err {l : List Int} {c : Cod} {e : Int} (h : decC l = (c, e)) (he : e ≠ 0) : c = ⟨0, 0, [], 0⟩ := by
  unfold decC at h
  split at h
  · exact (congrArg Prod.fst h).symm
  · split at h
    · exact absurd (congrArg Prod.snd h).symm he
    · exact (congrArg Prod.fst h).symm
theorem Byt.append {l m : List Int} (h1 : Byt l) (h2 : Byt m) : Byt (l ++ m) := fun c hc => by
  rcases List.mem_append.1 hc with h | h
  · exact h1 c h
  · exact h2 c h
theorem natL_byt {n : Int} (h : n < 9223372036854775808) : Byt (natL n) := by
  unfold natL; split
  · intro c hc; simp at hc
  · exact vint_byt64 (by omega)
theorem encI_byt {n : Ins} {i : Nat} (h : mayI n i = true) (hi : i ≤ 200) (hw : n.wf) : Byt (encI i n) := by
  unfold encI
  intro c hc
  rcases List.mem_cons.1 hc with rfl | hc
  · have := mayI_op h; omega
  · rcases List.mem_append.1 hc with hc | hc
    · unfold encA at hc
      obtain ⟨a, ha, hc⟩ := List.mem_flatMap.1 hc
      exact natL_byt (by have := mayI_args h a ha; omega) c hc
    · unfold encT at hc
      split at hc
      · exact vint_byt64 (zig_lt hw.k) c hc
      · split at hc
        · rename_i g
          simp only [List.mem_singleton] at hc
          subst hc
          exact mayI_k2 h g
        · split at hc
          · exact natL_byt (by have := hw.k.2; omega) c hc
          · split at hc
            · rename_i g
              have h33 := mayI_k33 h g
              rcases List.mem_append.1 hc with hc | hc
              · exact natL_byt (by omega) c hc
              · simp only [List.mem_singleton] at hc; subst hc; omega
            · simp at hc
theorem encC_byt {f d : Int} {l : List Ins} {out : Int} (h : mayC f d l out = true) (hw : wfL l) : Byt (encC f d l out) := by
  obtain ⟨⟨hf, hd1, hd2⟩, h1, h2, h3, h4, hall⟩ := mayC_parts h
  unfold encC
  refine ((Byt.append ?_ (natL_byt (by omega))).append ?_).append (natL_byt (by omega))
  · intro c hc
    simp only [List.mem_cons, List.not_mem_nil, or_false] at hc
    rcases hc with rfl | rfl | rfl <;> omega
  · intro c hc
    unfold encL at hc
    obtain ⟨i, hi, hc⟩ := List.mem_flatMap.1 hc
    have hi2 := List.mem_range.1 hi
    exact encI_byt (allMay_at hall i hi2) (by omega) (hw.at_ i hi2) c hc
end Go.Proofs.Ytehcimecmbcdfaa
