/- The walks of the laws of layer 1 (octet). -/
import Derived.Test.YtehcimecmbcdfaaXOctet4
set_option linter.unusedSimpArgs false
set_option linter.unusedVariables false
namespace Go.Proofs.Ytehcimecmbcdfaa
open Go.RowKit

theorem use_new {v : Value} {l : List Int} {w : World} {R : Ending → World → Prop} (h : RdS w .u8 v l) (hl : l.length ≤ 140737488355328)
    (k : ∀ b w1, Hid (Below w.heap.size w w1) → Hid (w.heap.size ≤ b) → Hid (Rdr w1 b l 0) → R (.returned (.pointer (some ⟨b, 0, none⟩))) w1) : Calls Try.prog 32 #[v] w R :=
  (octNew v l w h hl).mono fun e w1 ⟨b, he, h1, h2, h3⟩ => by
    subst he
    exact k b w1 h3 h1 h2
theorem use_rd {P : Program} {f : FuncId} {args : Array Value} {b : Nat} {l : List Int} {pos : Nat} {w : World} {r : Int × Nat × Int} {R : Ending → World → Prop} (h : Calls P f args w (RdPost w b l pos r))
    (k : ∀ w1, Hid (Kp (· = b) w w1) → Hid (Rdr w1 b l (pos + r.2.1)) → R (.returned (.tuple #[.int .i64 r.1, .int .i64 r.2.2])) w1) : Calls P f args w R :=
  h.mono fun e w1 ⟨he, h1, h2⟩ => by
    subst he
    exact k w1 h2 h1
theorem bl_kp {S : Nat → Prop} {w0 w w1 : World} (h : Below w0.heap.size w0 w) (hk : Kp S w w1) (hs : ∀ k, S k → w0.heap.size ≤ k) : Below w0.heap.size w0 w1 := Kp.below h hk h.size hs
theorem OwI.rdr {w w1 : World} {base : Nat} {k : IntKind} {v : Value} {l l' : List Int} {b pos : Nat} (h : OwI w base 5 k v l) (hk : Kp (· = b) w w1) (hr : Rdr w b l' pos) : OwI w1 base 5 k v l := by
  obtain ⟨sv, base', h1, -⟩ := hr
  exact h.kp hk (fun x hx e => h.ne h1 (by decide) (by rw [hx, e]))
theorem wf64 {n : Int} (h : (Lit.int .i64 n).wf = true) : I64 n := by
  simp [Lit.wf, IntKind.min, IntKind.max, IntKind.bits, IntKind.signed] at h
  unfold I64
  omega
/-! plain facts on varints -/
theorem vgo_vint : ∀ (l : List Int) (i x n : Nat), Byt l → vgo i l = .ok x n → l.take n = vint x ∧ (0 < i → 0 < x)
  | [], i, x, n, _, h => by simp [vgo] at h
  | c :: t, i, x, n, hb, h => by
    have hc := hb c (by simp)
    rw [vgo] at h
    by_cases h1 : i = 9 ∧ 1 < c
    · rw [if_pos h1] at h; cases h
    · rw [if_neg h1] at h
      by_cases h2 : 128 ≤ c
      · rw [if_pos h2] at h
        cases hv : vgo (i + 1) t with
        | short => rw [hv] at h; cases h
        | form => rw [hv] at h; cases h
        | ok x' n' =>
          rw [hv] at h
          obtain ⟨e1, e2⟩ : (c % 128).toNat + 128 * x' = x ∧ n' + 1 = n := by simpa [VR.step] using h
          obtain ⟨k1, k2⟩ := vgo_vint t (i + 1) x' n' (fun y hy => hb y (by simp [hy])) hv
          have k3 := k2 (by omega)
          subst e1 e2
          refine ⟨?_, fun _ => by omega⟩
          have e3 : ((c % 128).toNat + 128 * x') / 128 = x' := by omega
          have e4 : (128 + (((c % 128).toNat + 128 * x' : Nat) : Int) % 128 : Int) = c := by omega
          rw [List.take_succ_cons, k1, vint_big (x := (c % 128).toNat + 128 * x') (by omega), e3, e4]
      · rw [if_neg h2] at h
        by_cases h3 : c = 0 ∧ 0 < i
        · rw [if_pos h3] at h; cases h
        · rw [if_neg h3] at h
          obtain ⟨e1, e2⟩ : c.toNat = x ∧ 1 = n := by simpa using h
          subst e1 e2
          refine ⟨?_, fun _ => by omega⟩
          rw [vint_small (by omega)]
          simp
          omega
theorem vread_vint {l : List Int} {x n : Nat} (hb : Byt l) (h : vread l = .ok x n) : l.take n = vint x := (vgo_vint l 0 x n hb h).1
theorem vgo_of_vint : ∀ (k i x : Nat) (rest : List Int), 64 - 7 * i ≤ k → i ≤ 9 → x < 2 ^ (64 - 7 * i) → (0 < i → 0 < x) → vgo i (vint x ++ rest) = .ok x (vint x).length
  | k, i, x, rest, hk, hi, hx, h0 => by
    by_cases h : x < 128
    · rw [vint_small h]
      simp only [List.cons_append, List.nil_append, vgo]
      rw [if_neg, if_neg (by omega), if_neg (by omega)]
      · simp
      · rintro ⟨h1, h2⟩
        subst h1
        simp at hx
        omega
    · rw [vint_big h]
      have hi9 : i < 9 := by
        refine Nat.lt_of_le_of_ne hi fun e => ?_
        subst e
        simp at hx
        omega
      have hp : 2 ^ (64 - 7 * i) = 128 * 2 ^ (64 - 7 * (i + 1)) := by
        rw [show 64 - 7 * i = 7 + (64 - 7 * (i + 1)) by omega, Nat.pow_add]
      match k, hk with
      | 0, hk => omega
      | k + 1, hk =>
        have ih := vgo_of_vint k (i + 1) (x / 128) rest (by omega) (by omega) (by rw [hp] at hx; omega) (fun _ => by omega)
        simp only [List.cons_append, vgo]
        rw [if_neg (by omega), if_pos (by omega), ih]
        simp only [VR.step, List.length_cons]
        congr 1
        omega
theorem vread_of_vint {x : Nat} (hx : x < 18446744073709551616) (rest : List Int) : vread (vint x ++ rest) = .ok x (vint x).length :=
  vgo_of_vint 64 0 x rest (by omega) (by omega) (by omega) (by omega)
theorem unzig_zig {n : Int} (h : I64 n) : unzig (zig n) = n := by
  unfold I64 at h; unfold unzig zig; split <;> split <;> omega
theorem zig_unzig (x : Nat) : zig (unzig x) = x := by
  unfold unzig zig; split <;> split <;> omega
theorem unzig_i64 {x : Nat} (h : x < 18446744073709551616) : I64 (unzig x) := by
  unfold I64 unzig; split <;> omega
theorem vint_byt : ∀ (k x : Nat), x < 128 ^ k → Byt (vint x)
  | 0, x, h => by
    have : x = 0 := by simpa using h
    subst this
    rw [vint_small (by omega)]; intro c hc; simp at hc; omega
  | k + 1, x, h => by
    by_cases h0 : x < 128
    · rw [vint_small h0]; intro c hc; simp at hc; omega
    · rw [vint_big h0]
      have ih := vint_byt k (x / 128) (by rw [Nat.pow_succ] at h; omega)
      intro c hc
      rcases List.mem_cons.1 hc with rfl | hc
      · omega
      · exact ih c hc
theorem vint_byt64 {x : Nat} (h : x < 18446744073709551616) : Byt (vint x) := vint_byt 10 x (by omega)
theorem byt2 : Byt [172, 2] := by intro c hc; simp at hc; omega

set_option maxHeartbeats 400000 in
theorem awake01 (w : World) : Calls Try.prog 24 #[] w fun e w' => e = .returned (.bool true) ∧ Below w.heap.size w w' := by
  go_enter Try.func24, Try.ntmps24
  go_wp2_with fail
  refine use_own2 (octUint_yes 300 _ (by decide)) ?_
  rw [show vint 300 = [172, 2] by decide +kernel]
  intro v1 w1 hb1 ho1
  go_wp2_with fail
  have hlit : RdS (w1.alloc (.cells #[.int .u8 172, .int .u8 2] 5)) .u8 (.slice (some ⟨w1.heap.size, 0, none⟩) 2 2) [172, 2] := (OwI.lit (W := w1) (base := 0) (E := 5) (k := .u8) [172, 2] (Nat.zero_le _) (by simp)).rd
  refine use_new hlit (by simp) ?_
  intro b w2 hb2 hb hr2
  clear hlit
  have B2 := Lib.hid (bl_tr (bl_alloc hb1.out _) hb2.out)
  have a2 := Lib.hid (OwI.below (OwI.below ho1.out (bl1 _)) hb2.out)
  have hbb := Lib.hid (Nat.le_trans (bl_alloc hb1.out _).size hb.out)
  clear hb1 hb2 ho1 hb
  go_wp2_with fail
  refine use_rd (octRUint b [172, 2] 0 _ hr2.out byt2) ?_
  rw [show uintOf (([172, 2] : List Int).drop 0) = (300, 2, 0) by decide +kernel]
  intro w3 hk3 hr3
  have B3 := Lib.hid (bl_kp B2.out hk3.out (fun k hk => hk ▸ hbb.out))
  have a3 := Lib.hid (a2.out.rdr hk3.out hr2.out)
  clear hk3 hr2 hr3 a2 B2
  go_wp2_with fail
  refine use_b (same_any _ _ [172, 2] [172, 2] _ (a3.out.below (bl1 _)).rd (OwI.lit (W := w3) (base := 0) (E := 5) (k := .u8) [172, 2] (Nat.zero_le _) (by simp)).rd) ?_
  rw [decide_eq_true rfl]
  intro w4 hb4
  have B4 := Lib.hid (bl_tr (bl_alloc B3.out _) hb4.out)
  clear B3 hb4 a3
  go_wp2_with fail
  refine use_own (octInt_any (-1) _ (by unfold I64; omega)) ?_
  rw [show vint (zig (-1)) = [1] by decide +kernel]
  intro v5 w5 hb5 ho5
  go_wp2_with fail
  refine use_b (same_any _ _ [1] [1] _ (ho5.out.below (bl1 _)).rd (OwI.lit (W := w5) (base := 0) (E := 5) (k := .u8) [1] (Nat.zero_le _) (by simp)).rd) ?_
  rw [decide_eq_true rfl]
  intro w6 hb6
  have B6 := Lib.hid (bl_tr (bl_alloc (bl_tr B4.out hb5.out) _) hb6.out)
  clear B4 hb5 hb6 ho5
  go_wp2
  go_ret
  exact ⟨by first | rfl | (simp; done), B6.out⟩
set_option maxHeartbeats 400000 in
theorem wOctetNil (n : Int) (w : World) : Calls Try.prog 10 #[.int .i64 n] w fun e w' => e = .returned (.bool true) ∧ Below w.heap.size w w' := by
  go_enter Try.func10, Try.ntmps10
  go_wp2_with (first | (go_at_call 33; refine use_b (octRUint_nil _) ?_; intro w1 hb1) | (go_at_call 34; refine use_b (octRInt_nil _) ?_; intro w2 hb2) | (go_at_call 38; refine use_b (octByte_nil _) ?_; intro w3 hb3) | (go_at_call 39; refine use_b (octBytes_nil n _) ?_; intro w4 hb4) | (go_at_call 24; refine use_b (awake01 _) ?_; intro w5 hb5) | (go_at_call 35; refine use_b (octLeft_nil _) ?_; intro w6 hb6) | (go_at_call 36; refine use_b (octDone_nil _) ?_; intro w7 hb7))
  go_ret
  exact ⟨by first | rfl | (simp; done), by repeat (first | exact Below.refl _ _ | apply bl_alloc | apply bl_drew | apply bl_drewN | (refine bl_tr' (by assumption) ?_))⟩
set_option maxHeartbeats 400000 in
theorem wOctetPuts (n : Int) (w : World) (h : I64 n) : Calls Try.prog 5 #[.int .i64 n] w fun e w' => e = .returned (.bool true) ∧ Below w.heap.size w w' := by
  have HN := Lib.hid h
  unfold I64 at h
  obtain ⟨n1, n2⟩ := h
  by_cases h0 : 0 ≤ n
  · obtain ⟨m, rfl⟩ := Int.eq_ofNat_of_zero_le h0
    go_enter Try.func5, Try.ntmps5
    go_wp2_with fail
    refine use_own2 (octUint_yes m _ (by omega)) ?_
    intro v1 w1 hb1 ho1
    go_wp2_with fail
    refine use_own2 (rUint_yes m _ (by omega)) ?_
    intro v2 w2 hb2 ho2
    go_wp2_with fail
    refine use_b (awake01 _) ?_
    intro w3 hb3
    go_wp2_with fail
    refine use_b (same_any _ _ (vint m) (vint m) _ (OwI.below (OwI.below ho1.out hb2.out) hb3.out).rd (OwI.below ho2.out hb3.out).rd) ?_
    rw [decide_eq_true rfl]
    intro w4 hb4
    go_wp2_with fail
    refine use_own (octInt_any _ _ HN.out) ?_
    intro v5 w5 hb5 ho5
    go_wp2_with fail
    refine use_own (rInt_any _ _ HN.out) ?_
    intro v6 w6 hb6 ho6
    go_wp2_with fail
    refine use_b (same_any _ _ (vint (zig m)) (vint (zig m)) _ (OwI.below ho5.out hb6.out).rd ho6.out.rd) ?_
    rw [decide_eq_true rfl]
    intro w7 hb7
    go_wp2
    go_ret
    exact ⟨by first | rfl | (simp; done), by repeat (first | exact Below.refl _ _ | apply bl_alloc | apply bl_drew | apply bl_drewN | (refine bl_tr' (by assumption) ?_))⟩
  · go_enter Try.func5, Try.ntmps5
    go_wp2_with fail
    refine use_b (octUint_no n _ (by omega)) ?_
    intro w1 hb1
    go_wp2_with fail
    refine use_b (rUint_no n _ (by omega)) ?_
    intro w2 hb2
    go_wp2_with fail
    refine use_b (awake01 _) ?_
    intro w3 hb3
    go_wp2_with fail
    refine use_b (same_any _ _ [] [] _ (RdS.nil _ _) (RdS.nil _ _)) ?_
    rw [decide_eq_true rfl]
    intro w4 hb4
    go_wp2_with fail
    refine use_own (octInt_any _ _ HN.out) ?_
    intro v5 w5 hb5 ho5
    go_wp2_with fail
    refine use_own (rInt_any _ _ HN.out) ?_
    intro v6 w6 hb6 ho6
    go_wp2_with fail
    refine use_b (same_any _ _ (vint (zig n)) (vint (zig n)) _ (OwI.below ho5.out hb6.out).rd ho6.out.rd) ?_
    rw [decide_eq_true rfl]
    intro w7 hb7
    go_wp2
    go_ret
    exact ⟨by first | rfl | (simp; done), by repeat (first | exact Below.refl _ _ | apply bl_alloc | apply bl_drew | apply bl_drewN | (refine bl_tr' (by assumption) ?_))⟩

theorem uint_facts {l : List Int} (hb : Byt l) : ∃ (X N : Nat) (E : Int), uintOf l = ((X : Int), N, E) ∧ X < 9223372036854775808 ∧
    ((E = 0 ∧ vint X = l.take N ∧ N ≤ l.length ∧ (vint X).length = N) ∨ ((E = 2 ∨ E = 3) ∧ X = 0 ∧ N = 0)) := by
  cases h : vread l with
  | short => exact ⟨0, 0, 2, by simp [uintOf, h], by omega, .inr ⟨.inl rfl, rfl, rfl⟩⟩
  | form => exact ⟨0, 0, 3, by simp [uintOf, h], by omega, .inr ⟨.inr rfl, rfl, rfl⟩⟩
  | ok x n =>
    obtain ⟨f1, f2, f3⟩ := vread_facts hb h
    have hv := vread_vint hb h
    by_cases hx : x < 9223372036854775808
    · exact ⟨x, n, 0, by simp only [uintOf, h, if_pos hx], hx, .inl ⟨rfl, hv.symm, f1, by rw [← hv, List.length_take]; omega⟩⟩
    · exact ⟨0, 0, 3, by simp only [uintOf, h, if_neg hx]; rfl, by omega, .inr ⟨.inr rfl, rfl, rfl⟩⟩
theorem sint_facts {l : List Int} (hb : Byt l) : ∃ (X : Int) (N : Nat) (E : Int), sintOf l = (X, N, E) ∧ I64 X ∧
    ((E = 0 ∧ vint (zig X) = l.take N ∧ N ≤ l.length ∧ (vint (zig X)).length = N) ∨ ((E = 2 ∨ E = 3) ∧ X = 0 ∧ N = 0)) := by
  cases h : vread l with
  | short => exact ⟨0, 0, 2, by simp [sintOf, h], by unfold I64; omega, .inr ⟨.inl rfl, rfl, rfl⟩⟩
  | form => exact ⟨0, 0, 3, by simp [sintOf, h], by unfold I64; omega, .inr ⟨.inr rfl, rfl, rfl⟩⟩
  | ok x n =>
    obtain ⟨f1, f2, f3⟩ := vread_facts hb h
    have hv := vread_vint hb h
    exact ⟨unzig x, n, 0, by simp only [sintOf, h], unzig_i64 f3, .inl ⟨rfl, by rw [zig_unzig]; exact hv.symm, f1, by rw [zig_unzig, ← hv, List.length_take]; omega⟩⟩
end Go.Proofs.Ytehcimecmbcdfaa
