/- '==' of kinds and of instructions as one Bool. -/
import Derived.Test.YtehcimecmbcdfaaXRowN
import Derived.Laws.StructEq
set_option linter.unusedSimpArgs false
set_option linter.unusedVariables false
namespace Go.Proofs.Ytehcimecmbcdfaa
open Go.RowKit

theorem feq_step {P : Program} {d : Nat} {xs ys : Array Value} {f : Field} {fs : List Field} {a b : Value} {r s : Bool} {w : World} (hn : f.name ≠ "_")
    (ha : (part f.type xs f.offset).run P w = .ok a w) (hb : (part f.type ys f.offset).run P w = .ok b w) (he : (Op.equalIn d f.type a b).run P w = .ok r w) (hr : (Op.eqFields d xs ys fs).run P w = .ok s w) :
    (Op.eqFields d xs ys (f :: fs)).run P w = .ok (r && s) w := by
  rw [Op.eqFields, if_pos hn]
  simp only [Sem.run_bind, ha, hb, he, Result.andThen_ok]
  cases r
  · rfl
  · exact hr
theorem seq_of {P : Program} {d : Nat} {xs ys : Array Value} {t : TypeId} {fs : Array Field} {r : Bool} {w : World} (hu : P.underlying t = some (.struct fs)) (hp : P.stoodInHeld t = false)
    (h : (Op.eqFields d xs ys fs.toList).run P w = .ok r w) : (Op.equalIn (d + 1) t (.agg xs) (.agg ys)).run P w = .ok r w := by
  have hf : P.fieldsOf t = fs := by unfold Program.fieldsOf; rw [hu]
  rw [run_equalIn_struct w d t xs ys (by rw [hf]; exact hu) hp, hf]
  exact h
theorem eq_kind (d : Nat) (w : World) (x0 x1 y0 y1 : Int) :
    (Op.equalIn (d + 2) 23 (.agg #[.int .i64 x0, .int .i64 x1]) (.agg #[.int .i64 y0, .int .i64 y1])).run Try.prog w = .ok (x0 == y0 && (x1 == y1)) w := by
  have e : (x0 == y0 && (x1 == y1)) = (x0 == y0 && (x1 == y1 && true)) := by simp
  rw [e]
  refine seq_of Try.underlying23 (by kernel_rfl) ?_
  refine feq_step (by decide) (by go_simp; rfl) (by go_simp; rfl) (by go_simp) ?_
  refine feq_step (by decide) (by go_simp; rfl) (by go_simp; rfl) (by go_simp) ?_
  rfl
theorem eq_ins (d : Nat) (w : World) (x0 x1 x2 x3 x4 x5 y0 y1 y2 y3 y4 y5 : Int) :
    (Op.equalIn (d + 2) 92 (.agg #[.int .i64 x0, .int .i64 x1, .int .i64 x2, .int .i64 x3, .int .i64 x4, .int .i64 x5]) (.agg #[.int .i64 y0, .int .i64 y1, .int .i64 y2, .int .i64 y3, .int .i64 y4, .int .i64 y5])).run Try.prog w = .ok (x0 == y0 && (x1 == y1 && (x2 == y2 && (x3 == y3 && (x4 == y4 && (x5 == y5)))))) w := by
  have e : (x0 == y0 && (x1 == y1 && (x2 == y2 && (x3 == y3 && (x4 == y4 && (x5 == y5)))))) = (x0 == y0 && (x1 == y1 && (x2 == y2 && (x3 == y3 && (x4 == y4 && (x5 == y5 && true)))))) := by simp
  rw [e]
  refine seq_of Try.underlying92 (by kernel_rfl) ?_
  refine feq_step (by decide) (by go_simp; rfl) (by go_simp; rfl) (by go_simp) ?_
  refine feq_step (by decide) (by go_simp; rfl) (by go_simp; rfl) (by go_simp) ?_
  refine feq_step (by decide) (by go_simp; rfl) (by go_simp; rfl) (by go_simp) ?_
  refine feq_step (by decide) (by go_simp; rfl) (by go_simp; rfl) (by go_simp) ?_
  refine feq_step (by decide) (by go_simp; rfl) (by go_simp; rfl) (by go_simp) ?_
  refine feq_step (by decide) (by go_simp; rfl) (by go_simp; rfl) (by go_simp) ?_
  rfl
/-- are two instructions alike? -/
def insEq (m n : Ins) : Bool := m.op == n.op && (m.a == n.a && (m.b == n.b && (m.c == n.c && (m.k == n.k && (m.s == n.s)))))
theorem insEq_iff (m n : Ins) : insEq m n = true ↔ m = n := by
  obtain ⟨a1, a2, a3, a4, a5, a6⟩ := m
  obtain ⟨b1, b2, b3, b4, b5, b6⟩ := n
  simp [insEq]
def SamNRel (w : World) (N : Nat) (l m : List Ins) (i : Value) (wr : World) : Prop :=
  ∃ k : Nat, k ≤ N ∧ i = .int .i64 k ∧ (∀ j, j < k → l.getD j zIns = m.getD j zIns) ∧ Below w.heap.size w wr
instance : DecidableEq Ins := fun m n => decidable_of_iff (insEq m n = true) (insEq_iff m n)
/-- are two codes alike? -/
def codEq (f d : Int) (l : List Ins) (out : Int) (f' d' : Int) (l' : List Ins) (out' : Int) : Bool := decide (f = f' ∧ d = d' ∧ out = out' ∧ l = l')
theorem codEq_yes {f d : Int} {l : List Ins} {out f' d' : Int} {l' : List Ins} {out' : Int} (h : f = f' ∧ d = d' ∧ out = out' ∧ l = l') : codEq f d l out f' d' l' out' = true := by
  unfold codEq; exact decide_eq_true h
theorem codEq_no {f d : Int} {l : List Ins} {out f' d' : Int} {l' : List Ins} {out' : Int} (h : ¬ (f = f' ∧ d = d' ∧ out = out' ∧ l = l')) : codEq f d l out f' d' l' out' = false := by
  unfold codEq; exact decide_eq_false h
theorem list_ext_getD {l m : List Ins} (hl : l.length = m.length) (h : ∀ j, j < l.length → l.getD j zIns = m.getD j zIns) : l = m := by
  refine List.ext_getElem hl fun j h1 h2 => ?_
  have := h j h1
  rw [List.getD_eq_getElem?_getD, List.getD_eq_getElem?_getD, List.getElem?_eq_getElem h1, List.getElem?_eq_getElem h2] at this
  exact this
set_option maxRecDepth 20000 in
set_option maxHeartbeats 400000 in
theorem rsame_len (f d : Int) (A B : Option Addr) (c c' N : Nat) (l m : List Ins) (out : Int) (w : World) (ha : RdN w A l) (hb : RdN w B m) (hl : l.length = N) (hm : m.length = N) :
    Calls Try.prog 47 #[.agg #[.int .i64 f, .int .i64 d, .slice A N c, .int .i64 out], .agg #[.int .i64 f, .int .i64 d, .slice B N c', .int .i64 out]] w fun e w' => e = .returned (.bool (codEq f d l out f d m out)) ∧ Below w.heap.size w w' := by
  have hmax := ha.1
  rw [hl] at hmax
  have HA := Lib.hid ha
  have HB := Lib.hid hb
  have HL := Lib.hid hl
  have HM := Lib.hid hm
  have hk := eq_kind
  have hi := eq_ins
  clear ha hb hl hm
  go_enter Try.func47, Try.ntmps47
  go_wp2
  go_loopw [5] (fun i wr => SamNRel ((w.alloc (.cells #[.int .i64 f, .int .i64 d, .slice A N c, .int .i64 out] 64)).alloc (.cells #[.int .i64 f, .int .i64 d, .slice B N c', .int .i64 out] 64)) N l m i wr) (fun i _ => N - (intOf i).toNat)
  case atStart => exact ⟨0, Nat.zero_le _, rfl, fun j hj => absurd hj (Nat.not_lt_zero _), Below.refl _ _⟩
  case round =>
    obtain ⟨k, hk2, rfl, hok, hb⟩ := hrel
    have HOK := Lib.hid hok
    have HBk := Lib.hid hb
    have p2 : wr.cell? ⟨w.heap.size, 2, none⟩ = some (.slice A N c) := keepc HBk (blk_cell (blk_below (blk_new w (.cells #[.int .i64 f, .int .i64 d, .slice A N c, .int .i64 out] 64)) (bl1 _)) 2)
    have p3 : wr.cell? ⟨w.heap.size + 1, 2, none⟩ = some (.slice B N c') := keepc HBk (by have h := blk_cell (blk_new (w.alloc (.cells #[.int .i64 f, .int .i64 d, .slice A N c, .int .i64 out] 64)) (.cells #[.int .i64 f, .int .i64 d, .slice B N c', .int .i64 out] 64)) 2; simp only [World.size_alloc] at h; exact h)
    have BW := Lib.hid (bl_tr (show Below w.heap.size w ((w.alloc (.cells #[.int .i64 f, .int .i64 d, .slice A N c, .int .i64 out] 64)).alloc (.cells #[.int .i64 f, .int .i64 d, .slice B N c', .int .i64 out] 64)) from by repeat (first | exact Below.refl _ _ | apply bl_alloc | apply bl_drew | apply bl_drewN | (refine bl_tr' (by assumption) ?_))) HBk.out)
    clear hok hb
    by_cases hlt : k < N
    · obtain ⟨ad1, rfl, q0, q1, q2, q3, q4, q5⟩ := (HA.out.below BW.out).at_ k (by rw [HL.out]; exact hlt)
      obtain ⟨ad2, rfl, r0, r1, r2, r3, r4, r5⟩ := (HB.out.below BW.out).at_ k (by rw [HM.out]; exact hlt)
      obtain ⟨x, hx⟩ : ∃ x, l.getD k zIns = x := ⟨_, rfl⟩
      obtain ⟨y, hy⟩ : ∃ y, m.getD k zIns = y := ⟨_, rfl⟩
      rw [hx] at q0 q1 q2 q3 q4 q5
      rw [hy] at r0 r1 r2 r3 r4 r5
      have HX := Lib.hid hx
      have HY := Lib.hid hy
      clear hx hy
      have g0 : (0 : Int) ≤ (k : Int) := by omega
      have g1 : (k : Int) < (N : Int) := by omega
      by_cases he : x = y
      · subst he
        have hne := Lib.hid (show ∀ j, j < k + 1 → l.getD j zIns = m.getD j zIns from fun j hj => by
          by_cases h : j = k
          · subst h; rw [HX.out, HY.out]
          · exact HOK.out j (by omega))
        obtain ⟨x1, x2, x3, x4, x5, x6⟩ := x
        simp only at q0 q1 q2 q3 q4 q5 r0 r1 r2 r3 r4 r5
        go_wp2
        go_quiet (fail)
        go_wp2
        go_roundw
        case measure => simp [intOf]; omega
        case rel => exact ⟨k + 1, by omega, by go_num, hne.out, bl_drewN HBk.out _⟩
      · have hq := he
        rw [← insEq_iff, Bool.not_eq_true] at hq
        have hno := Lib.hid (show false = codEq f d l out f d m out from (codEq_no (fun h => he (by rw [← HX.out, ← HY.out, h.2.2.2]))).symm)
        obtain ⟨x1, x2, x3, x4, x5, x6⟩ := x
        obtain ⟨y1, y2, y3, y4, y5, y6⟩ := y
        simp only at q0 q1 q2 q3 q4 q5 r0 r1 r2 r3 r4 r5
        unfold insEq at hq
        simp only at hq
        have hq2 : (!(x1 == y1) || (!(x2 == y2) || (!(x3 == y3) || (!(x4 == y4) || (!(x5 == y5) || !(x6 == y6)))))) = true := by
          rw [← Bool.not_and, ← Bool.not_and, ← Bool.not_and, ← Bool.not_and, ← Bool.not_and, hq]; rfl
        clear he HX HY
        go_wp2
        go_quiet (fail)
        go_wp2
        go_ret
        exact ⟨ret_b hno.out, bl_drewN BW.out _⟩
    · have hyes := Lib.hid (show true = codEq f d l out f d m out from (codEq_yes ⟨rfl, rfl, rfl, list_ext_getD (by rw [HL.out, HM.out]) (fun j hj => HOK.out j (by rw [HL.out] at hj; omega))⟩).symm)
      go_wp2
      go_ret
      exact ⟨ret_b hyes.out, BW.out⟩
end Go.Proofs.Ytehcimecmbcdfaa
