/- The plain law of codes as bytes: written, read back, cut short, left over, one form. -/
import Derived.Test.YtehcimecmbcdfaaXDecS
import Derived.Test.YtehcimecmbcdfaaXLaw01
import Derived.Test.YtehcimecmbcdfaaXArgs
set_option linter.unusedSimpArgs false
set_option linter.unusedVariables false
namespace Go.Proofs.Ytehcimecmbcdfaa
open Go.RowKit

/-! readers, one behind the other -/
def Reads {α : Type} (F : Tk → α × Tk) (p : List Int) (x : α) : Prop := (∀ rest, F ⟨p ++ rest, 0⟩ = (x, ⟨rest, 0⟩)) ∧ (∀ u v, u ++ v = p → v ≠ [] → (F ⟨u, 0⟩).2.e = 2)
def Stays {α : Type} (F : Tk → α × Tk) : Prop := ∀ σ, σ.e ≠ 0 → (F σ).2 = σ
def seqT {α β : Type} (F : Tk → α × Tk) (G : α → Tk → β × Tk) : Tk → β × Tk := fun σ => G (F σ).1 (F σ).2
theorem Reads.seq {α β : Type} {F : Tk → α × Tk} {G : α → Tk → β × Tk} {p p' : List Int} {x : α} {y : β} (hF : Reads F p x) (hG : Reads (G x) p' y) (hs : ∀ a, Stays (G a)) : Reads (seqT F G) (p ++ p') y := by
  constructor
  · intro rest
    unfold seqT
    rw [List.append_assoc, hF.1]
    exact hG.1 rest
  · intro u v huv hv
    unfold seqT
    by_cases hlt : u.length < p.length
    · -- cut inside p
      have h1 : ∃ v', u ++ v' = p ∧ v' ≠ [] := by
        refine ⟨p.drop u.length, ?_, ?_⟩
        · have h2 : u = p.take u.length := by
            have := congrArg (List.take u.length) huv
            rw [List.take_left, List.take_append_of_le_length (by omega)] at this
            exact this
          conv => lhs; lhs; rw [h2]
          exact List.take_append_drop _ _
        · intro e
          have := congrArg List.length e
          rw [List.length_drop] at this
          simp at this
          omega
      obtain ⟨v', h2, h3⟩ := h1
      have h4 := hF.2 u v' h2 h3
      have hst := hs (F ⟨u, 0⟩).1 (F ⟨u, 0⟩).2 (by rw [h4]; decide)
      rw [hst]
      exact h4
    · have h2 : u = p ++ u.drop p.length := by
        have := congrArg (List.take p.length) huv
        rw [List.take_append_of_le_length (by omega), List.take_left] at this
        conv => lhs; rw [← List.take_append_drop p.length u, this]
      rw [h2, hF.1]
      simp only
      refine hG.2 _ v ?_ hv
      have h3 := huv
      rw [h2, List.append_assoc] at h3
      exact List.append_cancel_left h3
theorem Stays.seq {α β : Type} {F : Tk → α × Tk} {G : α → Tk → β × Tk} (hF : Stays F) (hG : ∀ a, Stays (G a)) : Stays (seqT F G) := by
  intro σ h
  unfold seqT
  have h1 := hF σ h
  rw [h1]
  exact hG _ σ h
theorem Reads.pure {α : Type} (x : α) : Reads (fun σ => (x, σ)) [] x := ⟨fun _ => rfl, fun u v h hv => by have := List.append_eq_nil_iff.1 h; exact absurd this.2 hv⟩
theorem Stays.pure {α : Type} (x : α) : Stays (fun σ => (x, σ)) := fun _ _ => rfl
theorem Stays.rd (g : List Int → Int × Nat × Int) : Stays (fun σ => σ.rd g) := fun σ h => by show (σ.rd g).2 = σ; unfold Tk.rd; rw [if_neg h]
theorem Stays.reg (p : Int) : Stays (fun σ => σ.reg p) := fun σ h => (reg_stop h).1
theorem Reads.rd {g : List Int → Int × Nat × Int} {p : List Int} {x : Int} (h1 : ∀ rest, g (p ++ rest) = (x, p.length, 0)) (h2 : ∀ u v, u ++ v = p → v ≠ [] → (g u).2.2 = 2) : Reads (fun σ => σ.rd g) p x := by
  constructor
  · intro rest
    unfold Tk.rd
    simp only [if_true, h1, List.drop_left]
  · intro u v huv hv
    unfold Tk.rd
    simp only [if_true]
    exact h2 u v huv hv
theorem byteOf_reads (c : Int) : Reads (fun σ => σ.rd byteOf) [c] c :=
  Reads.rd (fun rest => rfl) (fun u v h hv => by
    cases u with
    | nil => rfl
    | cons a u =>
      have := congrArg List.length h
      simp only [List.length_append, List.length_cons, List.length_nil] at this
      exact absurd (List.eq_nil_of_length_eq_zero (by omega)) hv)
theorem vgo_cut : ∀ (k i x : Nat) (u v : List Int), i + k ≤ 10 → x < 128 ^ k → u ++ v = vint x → v ≠ [] → vgo i u = .short
  | 0, i, x, u, v, hi, hx, h, hv => by
    obtain rfl : x = 0 := by simpa using hx
    rw [vint_small (by omega)] at h
    cases u with
    | nil => rfl
    | cons a u => have := congrArg List.length h; simp only [List.length_append, List.length_cons, List.length_nil] at this; exact absurd (List.eq_nil_of_length_eq_zero (by omega)) hv
  | k + 1, i, x, u, v, hi, hx, h, hv => by
    by_cases h0 : x < 128
    · rw [vint_small h0] at h
      cases u with
      | nil => rfl
      | cons a u => have := congrArg List.length h; simp only [List.length_append, List.length_cons, List.length_nil] at this; exact absurd (List.eq_nil_of_length_eq_zero (by omega)) hv
    · rw [vint_big h0] at h
      cases u with
      | nil => rfl
      | cons a u =>
        rw [List.cons_append] at h
        injection h with ha hu
        have hk : k ≠ 0 := by intro e; subst e; simp at hx; omega
        have ih := vgo_cut k (i + 1) (x / 128) u v (by omega) (by rw [Nat.pow_succ] at hx; omega) hu hv
        subst ha
        rw [vgo, if_neg (by omega), if_pos (by omega), ih]
        rfl
theorem vread_cut {x : Nat} (hx : x < 18446744073709551616) {u v : List Int} (h : u ++ v = vint x) (hv : v ≠ []) : vread u = .short := vgo_cut 10 0 x u v (by omega) (by omega) h hv
theorem uintOf_reads (n : Nat) (hn : n < 9223372036854775808) : Reads (fun σ => σ.rd uintOf) (vint n) (n : Int) :=
  Reads.rd (fun rest => by unfold uintOf; rw [vread_of_vint (by omega)]; simp only; rw [if_pos hn]) (fun u v h hv => by unfold uintOf; rw [vread_cut (by omega) h hv])
theorem sintOf_reads (n : Int) (hn : I64 n) : Reads (fun σ => σ.rd sintOf) (vint (zig n)) n :=
  Reads.rd (fun rest => by unfold sintOf; rw [vread_of_vint (zig_lt hn)]; simp only; rw [unzig_zig hn]) (fun u v h hv => by unfold sintOf; rw [vread_cut (zig_lt hn) h hv])
theorem natL_reads (n : Int) (h0 : 0 ≤ n) (hn : n < 9223372036854775808) : Reads (fun σ => σ.rd uintOf) (natL n) n := by
  obtain ⟨m, rfl⟩ := Int.eq_ofNat_of_zero_le h0
  rw [natL_nat]
  exact uintOf_reads m (by omega)
theorem reg_reads (p a : Int) (h0 : 0 ≤ a) (h1 : a < p) (hp : p ≤ 9223372036854775807) : Reads (fun σ => σ.reg p) (natL (p - 1 - a)) a := by
  have h := natL_reads (p - 1 - a) (by omega) (by omega)
  constructor
  · intro rest
    have := h.1 rest
    simp only at this
    show (Tk.reg ⟨natL (p - 1 - a) ++ rest, 0⟩ p) = _
    unfold Tk.reg
    rw [this]
    simp only
    unfold Tk.fail
    rw [decide_eq_false (by omega)]
    simp
    omega
  · intro u v huv hv
    have := h.2 u v huv hv
    simp only at this
    show (Tk.reg ⟨u, 0⟩ p).2.e = 2
    unfold Tk.reg Tk.fail
    simp only
    rw [if_neg (fun hh => by rw [this] at hh; exact absurd hh.2 (by decide))]
    exact this
/-! an instruction -/
def regIf (b : Prop) [Decidable b] (i : Int) (σ : Tk) : Int × Tk := if b then σ.reg i else (0, σ)
def cstOf (op : Int) (σ : Tk) : Int × Tk := if howN op = 1 then σ.rd sintOf else if howN op = 2 then σ.rd byteOf else if howN op = 3 ∨ howN op = 4 then σ.rd uintOf else (0, σ)
def shfOf (op : Int) (σ : Tk) : Int × Tk := if howN op = 4 then σ.rd byteOf else (0, σ)
theorem Stays.regIf (b : Prop) [Decidable b] (i : Int) : Stays (regIf b i) := by
  intro σ h; unfold Go.Proofs.Ytehcimecmbcdfaa.regIf; split
  · exact Stays.reg i σ h
  · rfl
theorem Stays.cstOf (op : Int) : Stays (cstOf op) := by
  intro σ h; unfold Go.Proofs.Ytehcimecmbcdfaa.cstOf; split
  · exact Stays.rd _ σ h
  · split
    · exact Stays.rd _ σ h
    · split
      · exact Stays.rd _ σ h
      · rfl
theorem Stays.shfOf (op : Int) : Stays (shfOf op) := by
  intro σ h; unfold Go.Proofs.Ytehcimecmbcdfaa.shfOf; split
  · exact Stays.rd _ σ h
  · rfl
def decT (i : Int) : Tk → Ins × Tk :=
  seqT (fun σ => σ.rd byteOf) fun o => seqT (regIf (0 < ar o) i) fun a => seqT (regIf (1 < ar o) i) fun b => seqT (regIf (2 < ar o) i) fun c => seqT (cstOf o) fun k => seqT (shfOf o) fun s σ => (⟨o, a, b, c, k, s⟩, σ)
theorem decI_eq (σ : Tk) (i : Int) : decI σ i = decT i σ := rfl
theorem decT_stays (i : Int) : Stays (decT i) :=
  (Stays.rd _).seq fun o => (Stays.regIf _ i).seq fun a => (Stays.regIf _ i).seq fun b => (Stays.regIf _ i).seq fun c => (Stays.cstOf o).seq fun k => (Stays.shfOf o).seq fun s => Stays.pure _
def regL (b : Prop) [Decidable b] (i a : Int) : List Int := if b then natL (i - 1 - a) else []
theorem regIf_reads (b : Prop) [Decidable b] (i a : Int) (h : if b then 0 ≤ a ∧ a < i else a = 0) (hi : i ≤ 9223372036854775807) : Reads (regIf b i) (regL b i a) a := by
  unfold regIf regL
  by_cases hb : b
  · rw [if_pos hb] at h
    simp only [if_pos hb]
    exact reg_reads i a h.1 h.2 hi
  · rw [if_neg hb] at h
    simp only [if_neg hb]
    subst h
    exact Reads.pure 0
theorem regOk_if {A : Int} {j : Nat} {x p : Int} (h : regOk A j x p = true) : if (j : Int) < A then 0 ≤ x ∧ x < p else x = 0 := by
  unfold regOk at h
  split at h <;> rename_i hj <;> simp only [hj, if_true, if_false] <;> exact of_decide_eq_true h
theorem encA_eq (i : Nat) (n : Ins) : encA i n = regL (0 < ar n.op) i n.a ++ (regL (1 < ar n.op) i n.b ++ regL (2 < ar n.op) i n.c) := by
  have h := args_cases n.op
  unfold encA Ins.args regL
  rcases h with h | h | h | h | h <;> rw [h] <;> simp
def cstL (n : Ins) : List Int := if howN n.op = 1 then vint (zig n.k) else if howN n.op = 2 then [n.k] else if howN n.op = 3 ∨ howN n.op = 4 then natL n.k else []
def shfL (n : Ins) : List Int := if howN n.op = 4 then [n.s] else []
theorem encT_eq (n : Ins) : encT n = cstL n ++ shfL n := by
  unfold encT cstL shfL howN
  by_cases h1 : n.op = 1 ∨ n.op = 32
  · simp [h1]
  · by_cases h2 : n.op = 2 ∨ n.op = 3 ∨ n.op = 29 ∨ n.op = 30
    · simp only [if_neg h1, if_pos h2]; simp
    · by_cases h3 : n.op = 31
      · simp only [if_neg h1, if_neg h2, if_pos h3]; simp
      · by_cases h4 : n.op = 33
        · simp only [if_neg h1, if_neg h2, if_neg h3, if_pos h4]; simp
        · simp only [if_neg h1, if_neg h2, if_neg h3, if_neg h4]; simp
theorem howN_cases (op : Int) : (howN op = 1 ∧ (op = 1 ∨ op = 32)) ∨ (howN op = 2 ∧ (op = 2 ∨ op = 3 ∨ op = 29 ∨ op = 30)) ∨ (howN op = 3 ∧ op = 31) ∨ (howN op = 4 ∧ op = 33) ∨ (howN op = 0 ∧ ¬ (op = 1 ∨ op = 32) ∧ ¬ (op = 2 ∨ op = 3 ∨ op = 29 ∨ op = 30) ∧ op ≠ 31 ∧ op ≠ 33) := by
  unfold howN
  by_cases h1 : op = 1 ∨ op = 32
  · simp [h1]
  · by_cases h2 : op = 2 ∨ op = 3 ∨ op = 29 ∨ op = 30
    · rw [if_neg h1, if_pos h2]; simp [h2]
    · by_cases h3 : op = 31
      · rw [if_neg h1, if_neg h2, if_pos h3]; simp [h3]
      · by_cases h4 : op = 33
        · rw [if_neg h1, if_neg h2, if_neg h3, if_pos h4]; simp [h4]
        · rw [if_neg h1, if_neg h2, if_neg h3, if_neg h4]
          exact .inr (.inr (.inr (.inr ⟨rfl, h1, h2, h3, h4⟩)))
/-- what a permitted instruction's constant is where none is written -/
theorem mayI_none {n : Ins} {p : Int} (h : mayI n p = true) (h0 : howN n.op = 0) : n.k = 0 := by
  obtain ⟨h1, h2, h3, h4, h5, h6⟩ := mayI_parts h
  have hd := ar_dom h1
  rcases howN_cases n.op with hh | hh | hh | hh | ⟨-, g1, g2, g3, g4⟩
  · omega
  · omega
  · omega
  · omega
  · unfold insTail at h6
    rw [if_neg (by omega), if_neg (by omega), if_neg (by omega), if_neg g4, if_neg (by omega)] at h6
    simp at h6
    exact h6.1
theorem mayI_s {n : Ins} {p : Int} (h : mayI n p = true) (h0 : n.op ≠ 33) : n.s = 0 := by
  obtain ⟨h1, h2, h3, h4, h5, h6⟩ := mayI_parts h
  unfold insTail at h6
  by_cases g1 : n.op = 1
  · rw [if_pos g1] at h6; simp at h6; exact h6.2
  · by_cases g2 : n.op = 2
    · rw [if_neg g1, if_pos g2] at h6; simp at h6; exact h6.2
    · by_cases g3 : n.op = 3
      · rw [if_neg g1, if_neg g2, if_pos g3] at h6; simp at h6; exact h6.2
      · by_cases g4 : 29 ≤ n.op ∧ n.op ≤ 32
        · rw [if_neg g1, if_neg g2, if_neg g3, if_neg h0, if_pos g4] at h6; simp at h6; exact h6
        · rw [if_neg g1, if_neg g2, if_neg g3, if_neg h0, if_neg g4] at h6; simp at h6; exact h6.2
theorem cstOf_reads {n : Ins} {p : Int} (h : mayI n p = true) : Reads (cstOf n.op) (cstL n) n.k := by
  unfold cstL
  rcases howN_cases n.op with ⟨hh, g⟩ | ⟨hh, g⟩ | ⟨hh, g⟩ | ⟨hh, g⟩ | ⟨hh, g⟩
  · have e : cstOf n.op = fun σ => σ.rd sintOf := by funext σ; unfold cstOf; rw [if_pos hh]
    rw [e, if_pos hh]
    exact sintOf_reads _ (by have := mayI_word h g; unfold I64; omega)
  · have e : cstOf n.op = fun σ => σ.rd byteOf := by funext σ; unfold cstOf; rw [if_neg (by omega), if_pos hh]
    rw [e, if_neg (by omega), if_pos hh]
    exact byteOf_reads _
  · have e : cstOf n.op = fun σ => σ.rd uintOf := by funext σ; unfold cstOf; rw [if_neg (by omega), if_neg (by omega), if_pos (.inl hh)]
    rw [e, if_neg (by omega), if_neg (by omega), if_pos (.inl hh)]
    have := mayI_k31 h g
    exact natL_reads _ (by omega) (by omega)
  · have e : cstOf n.op = fun σ => σ.rd uintOf := by funext σ; unfold cstOf; rw [if_neg (by omega), if_neg (by omega), if_pos (.inr hh)]
    rw [e, if_neg (by omega), if_neg (by omega), if_pos (.inr hh)]
    have := mayI_k33 h g
    exact natL_reads _ (by omega) (by omega)
  · have e : cstOf n.op = fun σ => (0, σ) := by funext σ; unfold cstOf; rw [if_neg (by omega), if_neg (by omega), if_neg (by omega)]
    rw [e, if_neg (by omega), if_neg (by omega), if_neg (by omega), mayI_none h hh]
    exact Reads.pure 0
theorem shfOf_reads {n : Ins} {p : Int} (h : mayI n p = true) : Reads (shfOf n.op) (shfL n) n.s := by
  unfold shfL
  by_cases h4 : howN n.op = 4
  · have e : shfOf n.op = fun σ => σ.rd byteOf := by funext σ; unfold shfOf; rw [if_pos h4]
    rw [e, if_pos h4]
    exact byteOf_reads _
  · have e : shfOf n.op = fun σ => (0, σ) := by funext σ; unfold shfOf; rw [if_neg h4]
    rw [e, if_neg h4, mayI_s h (fun g => h4 (by unfold howN; rw [if_neg (by omega), if_neg (by omega), if_neg (by omega), if_pos g]))]
    exact Reads.pure 0
theorem decT_reads {n : Ins} {i : Nat} (h : mayI n i = true) (hi : i ≤ 200) : Reads (decT i) (encI i n) n := by
  obtain ⟨h1, h2, h3, h4, h5, h6⟩ := mayI_parts h
  have e : encI i n = [n.op] ++ (regL (0 < ar n.op) i n.a ++ (regL (1 < ar n.op) i n.b ++ (regL (2 < ar n.op) i n.c ++ (cstL n ++ (shfL n ++ []))))) := by
    unfold encI; rw [encA_eq, encT_eq]; simp
  rw [e]
  exact (byteOf_reads n.op).seq ((regIf_reads _ _ _ (regOk_if h3) (by omega)).seq ((regIf_reads _ _ _ (regOk_if h4) (by omega)).seq ((regIf_reads _ _ _ (regOk_if h5) (by omega)).seq ((cstOf_reads h).seq ((shfOf_reads h).seq (Reads.pure _) (fun _ => Stays.pure _)) (fun _ => (Stays.shfOf _).seq fun _ => Stays.pure _))
    (fun _ => (Stays.cstOf _).seq fun _ => (Stays.shfOf _).seq fun _ => Stays.pure _)) (fun _ => (Stays.regIf _ _).seq fun _ => (Stays.cstOf _).seq fun _ => (Stays.shfOf _).seq fun _ => Stays.pure _))
    (fun _ => (Stays.regIf _ _).seq fun _ => (Stays.regIf _ _).seq fun _ => (Stays.cstOf _).seq fun _ => (Stays.shfOf _).seq fun _ => Stays.pure _))
    (fun _ => (Stays.regIf _ _).seq fun _ => (Stays.regIf _ _).seq fun _ => (Stays.regIf _ _).seq fun _ => (Stays.cstOf _).seq fun _ => (Stays.shfOf _).seq fun _ => Stays.pure _)
end Go.Proofs.Ytehcimecmbcdfaa
