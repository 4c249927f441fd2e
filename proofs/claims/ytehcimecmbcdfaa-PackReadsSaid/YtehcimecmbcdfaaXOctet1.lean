/- Contracts: the bytes of numbers (octet.put, Uint, Int and the reference's). -/
import Derived.Test.YtehcimecmbcdfaaXRows
set_option linter.unusedSimpArgs false
set_option linter.unusedVariables false
namespace Go.Proofs.Ytehcimecmbcdfaa
open Go.RowKit

theorem info_u8 : (Try.prog.info? 5).map (fun i => (i.zero, i.size, i.bytes)) = some (some (.int .u8 0), 1, 1) := by kernel_rfl

/-- the varint of a number -/
def vint (x : Nat) : List Int := if x < 128 then [(x : Int)] else (128 + x % 128 : Int) :: vint (x / 128)
theorem vint_small {x : Nat} (h : x < 128) : vint x = [(x : Int)] := by rw [vint, if_pos h]
theorem vint_big {x : Nat} (h : ¬ x < 128) : vint x = (128 + x % 128 : Int) :: vint (x / 128) := by rw [vint, if_neg h]
theorem vint_len : ∀ (n x : Nat), x < 128 ^ (n + 1) → (vint x).length ≤ n + 1
  | 0, x, h => by rw [vint_small (by simpa using h)]; simp
  | n + 1, x, h => by
    by_cases h0 : x < 128
    · rw [vint_small h0]; simp
    · rw [vint_big h0]
      have := vint_len n (x / 128) (by rw [Nat.pow_succ] at h; omega)
      simp; omega
theorem vint_len10 {x : Nat} (h : x < 18446744073709551616) : (vint x).length ≤ 10 := vint_len 9 x (by omega)
/-- A call that hands back a new row. -/
def OwnPost (w : World) (E : TypeId) (k : IntKind) (l : List Int) (e : Ending) (w' : World) : Prop :=
  ∃ v, e = .returned v ∧ OwI w' w.heap.size E k v l ∧ Below w.heap.size w w'
theorem use_own {P : Program} {n : FuncId} {args : Array Value} {W : World} {E : TypeId} {k : IntKind} {l : List Int} {R : Ending → World → Prop}
    (h : Calls P n args W (OwnPost W E k l))
    (kk : ∀ v w1, Hid (Below W.heap.size W w1) → Hid (OwI w1 W.heap.size E k v l) → R (.returned v) w1) :
    Calls P n args W R :=
  h.mono fun e w1 ⟨v, he, ho, hb⟩ => by subst he; exact kk v w1 hb ho

theorem or128 (x : Int) : bits .or .u8 (x % 256) 128 = 128 + x % 128 := by
  have h : ∀ m : Fin 256, bits .or .u8 ((m.val : Nat) : Int) 128 = 128 + ((m.val : Nat) : Int) % 128 := by decide +kernel
  have h1 := h ⟨(x % 256).toNat, by omega⟩
  simp only at h1
  rw [Int.toNat_of_nonneg (by omega)] at h1
  rw [h1]
  omega

theorem bl_grown {B : Nat} {w W w1 : World} {v : Value} {E : TypeId} {k : IntKind} {l : List Int} (h : Below B w W) (ho : OwI W B E k v l) (hB : B ≤ W.heap.size) (hg : W.grownBy w1 v.ownBlock) : Below B w w1 :=
  h.grown hg hB (fun b hb => (ho.blockGe b hb).1)
def PutRel (w : World) (x : Nat) (v0 v3 : Value) (wr : World) : Prop :=
  ∃ (y : Nat) (l : List Int), v0 = .int .u64 y ∧ l ++ vint y = vint x ∧ y < 18446744073709551616 ∧ OwI wr w.heap.size 5 .u8 v3 l ∧ Below w.heap.size w wr
set_option maxHeartbeats 400000 in
theorem put_any (x : Nat) (w : World) (hx : x < 18446744073709551616) :
    Calls Try.prog 58 #[.int .u64 x] w (OwnPost w 5 .u8 (vint x)) := by
  go_enter Try.func58, Try.ntmps58
  go_wp2_with fail
  go_loopw [0, 3] (fun v0 v3 wr => PutRel w x v0 v3 wr) (fun v0 _ _ => (intOf v0).toNat)
  case atStart => exact ⟨x, [], rfl, rfl, hx, OwI.lit (k := .u8) (E := 5) [] (Nat.le_refl _) (by simp), bl1 _⟩
  case round =>
    obtain ⟨y, l, rfl, hl, hy, ho, hb⟩ := hrel
    have hlen : l.length + 1 ≤ 10 := by
      have h1 := vint_len10 hx
      rw [← hl, List.length_append] at h1
      have h2 : 1 ≤ (vint y).length := by rw [vint]; split <;> simp
      omega
    have hsz := hb.size
    have HL := Lib.hid hl
    have HO := Lib.hid ho
    have HB := Lib.hid hb
    clear hl ho hb
    by_cases h0 : y < 128
    · have hs := Lib.hid (vint_small h0)
      have e1 : decide (128 ≤ (y : Int)) = false := by simp; omega
      go_wp2_with (at_builtin; refine ap_one w.heap.size rfl (.tmp 15) (.tmp 18) 36 5 .u8 1 rfl Try.underlying36 info_u8 (by decide) u3 l _ rfl rfl HO.out hsz (by omega) _ rfl ?_; intro A1 c1 w1 hO1 hg1 hat1)
      go_ret
      refine ⟨_, rfl, ?_, bl_grown HB.out HO.out hsz hg1.out⟩
      have h1 := hO1.out
      rw [← hs.out, HL.out] at h1
      exact h1
    · have hs := Lib.hid (vint_big h0)
      have e1 : decide (128 ≤ (y : Int)) = true := by simp; omega
      have ho := Lib.hid (or128 y)
      go_wp2_with (at_builtin; refine ap_one w.heap.size rfl (.tmp 7) (.tmp 11) 36 5 .u8 1 rfl Try.underlying36 info_u8 (by decide) u3 l _ rfl rfl HO.out hsz (by omega) _ rfl ?_; intro A1 c1 w1 hO1 hg1 hat1)
      go_roundw
      case measure => simp [intOf]; omega
      case rel =>
        refine ⟨y / 128, l ++ [128 + (y : Int) % 128], by simp, ?_, by omega, ?_, bl_grown HB.out HO.out hsz hg1.out⟩
        · rw [← HL.out, hs.out, List.append_assoc]; rfl
        · have h1 := hO1.out
          rw [ho.out] at h1
          exact h1

def I64 (n : Int) : Prop := -9223372036854775808 ≤ n ∧ n ≤ 9223372036854775807
/-- the number that stands for any number -/
def zig (n : Int) : Nat := if 0 ≤ n then (2 * n).toNat else (-2 * n - 1).toNat
theorem zig_lt {n : Int} (h : I64 n) : zig n < 18446744073709551616 := by unfold I64 at h; unfold zig; split <;> omega
theorem xor_u64_0 (a : Int) (h : 0 ≤ a ∧ a ≤ 18446744073709551615) : bits .xor .u64 a 0 = a := by
  show IntKind.u64.wrap ((BitVec.ofInt 64 a ^^^ BitVec.ofInt 64 0).toNat : Int) = a
  rw [show (BitVec.ofInt 64 0) = 0#64 from rfl, BitVec.xor_zero, BitVec.toNat_ofInt]
  simp only [IntKind.wrap, IntKind.bits, IntKind.signed]
  simp
  omega
theorem xor_u64_m (a : Int) (h : 0 ≤ a ∧ a ≤ 18446744073709551615) : bits .xor .u64 a 18446744073709551615 = 18446744073709551615 - a := by
  show IntKind.u64.wrap ((BitVec.ofInt 64 a ^^^ BitVec.ofInt 64 18446744073709551615).toNat : Int) = _
  rw [show (BitVec.ofInt 64 18446744073709551615) = BitVec.allOnes 64 from by decide +kernel, BitVec.xor_allOnes, BitVec.toNat_not, BitVec.toNat_ofInt]
  simp only [IntKind.wrap, IntKind.bits, IntKind.signed]
  simp
  omega
theorem wrap_u64 (n : Int) : IntKind.u64.wrap n = n % 18446744073709551616 := by simp [IntKind.wrap, IntKind.bits, IntKind.signed]
theorem zig_xor {n : Int} (h : I64 n) : bits .xor .u64 (IntKind.u64.wrap (IntKind.u64.wrap n * 2)) (IntKind.u64.wrap (n / 9223372036854775808)) = (zig n : Int) := by
  unfold I64 at h
  unfold zig
  by_cases h0 : 0 ≤ n
  · rw [if_pos h0, show n / 9223372036854775808 = 0 by omega, show IntKind.u64.wrap 0 = 0 by decide +kernel, wrap_u64, wrap_u64, xor_u64_0 _ (by omega)]
    omega
  · rw [if_neg h0, show n / 9223372036854775808 = -1 by omega, show IntKind.u64.wrap (-1) = 18446744073709551615 by decide +kernel, wrap_u64, wrap_u64, xor_u64_m _ (by omega)]
    omega
/-- two results, the first one a new row -/
def OwnPost2 (w : World) (E : TypeId) (k : IntKind) (l : List Int) (n : Int) (e : Ending) (w' : World) : Prop :=
  ∃ v, e = .returned (.tuple #[v, .int .i64 n]) ∧ OwI w' w.heap.size E k v l ∧ Below w.heap.size w w'
theorem use_own2 {P : Program} {n : FuncId} {args : Array Value} {W : World} {E : TypeId} {k : IntKind} {l : List Int} {m : Int} {R : Ending → World → Prop}
    (h : Calls P n args W (OwnPost2 W E k l m))
    (kk : ∀ v w1, Hid (Below W.heap.size W w1) → Hid (OwI w1 W.heap.size E k v l) → R (.returned (.tuple #[v, .int .i64 m])) w1) :
    Calls P n args W R :=
  h.mono fun e w1 ⟨v, he, ho, hb⟩ => by subst he; exact kk v w1 hb ho
theorem octUint_yes (n : Nat) (w : World) (h : n < 9223372036854775808) :
    Calls Try.prog 22 #[.int .i64 n] w (OwnPost2 w 5 .u8 (vint n) 0) := by
  go_enter Try.func22, Try.ntmps22
  go_wp2_with (go_at_call 58; refine use_own (put_any n _ (by omega)) ?_; intro v1 w1 hb1 ho1)
  go_ret2
  exact ⟨_, rfl, ho1.out, hb1.out⟩
theorem octUint_no (n : Int) (w : World) (h : n < 0) :
    Calls Try.prog 22 #[.int .i64 n] w fun e w' => e = .returned (.tuple #[.slice none 0 0, .int .i64 1]) ∧ Below w.heap.size w w' := by
  go_enter Try.func22, Try.ntmps22
  go_wp2
  go_ret2
  exact ⟨rfl, by repeat (first | exact Below.refl _ _ | apply bl_alloc | apply bl_drew | apply bl_drewN | (refine bl_tr' (by assumption) ?_))⟩
theorem octInt_any (n : Int) (w : World) (h : I64 n) :
    Calls Try.prog 26 #[.int .i64 n] w (OwnPost w 5 .u8 (vint (zig n))) := by
  have hz := Lib.hid (zig_xor h)
  have hl := zig_lt h
  unfold I64 at h
  obtain ⟨h1, h2⟩ := h
  go_enter Try.func26, Try.ntmps26
  go_wp2_with fail
  rw [hz.out]
  refine use_own (put_any (zig n) _ hl) ?_
  intro v1 w1 hb1 ho1
  go_wp2
  go_ret
  exact ⟨_, rfl, ho1.out, hb1.out⟩
theorem varint_any : ∀ (n x : Nat) (w : World), x < 128 ^ (n + 1) → x < 18446744073709551616 →
    Calls Try.prog 59 #[.int .u64 x] w (OwnPost w 5 .u8 (vint x))
  | n, x, w, hx, hm => by
    by_cases h0 : x < 128
    · have hs := Lib.hid (vint_small h0)
      have e1 : decide ((x : Int) < 128) = true := by simp; omega
      go_enter Try.func59, Try.ntmps59
      go_wp2_with fail
      go_ret
      exact ⟨_, rfl, by rw [hs.out]; exact OwI.lit [(x : Int)] (Nat.le_refl _) (by simp), by repeat (first | exact Below.refl _ _ | apply bl_alloc | apply bl_drew | apply bl_drewN | (refine bl_tr' (by assumption) ?_))⟩
    · have hs := Lib.hid (vint_big h0)
      have e1 : decide ((x : Int) < 128) = false := by simp; omega
      match n, hx with
      | 0, hx => exact absurd (by simpa using hx) h0
      | n + 1, hx =>
        have ih := fun w => Lib.hid (varint_any n (x / 128) w (by rw [Nat.pow_succ] at hx; omega) (by omega))
        have hlen := vint_len10 (x := x / 128) (by omega)
        clear hx
        go_enter Try.func59, Try.ntmps59
        go_wp2_with fail
        rw [show ((x : Int) / 128) = ((x / 128 : Nat) : Int) by omega]
        refine use_own (ih _).out ?_
        intro v1 w1 hb1 ho1
        have hlit := Lib.hid (show OwI w1 w.heap.size 5 .u8 (.slice (some ⟨w.heap.size, 0, none⟩) 1 1) [128 + (x : Int) % 128] from OwI.below (OwI.lit [128 + (x : Int) % 128] (Nat.le_refl _) (by simp)) hb1.out)
        have hsz := (bl_tr' hb1 (bl1 _)).size
        have hB := Lib.hid (bl_tr' hb1 (bl1 _))
        go_wp2_with (at_builtin; refine ap_row w.heap.size rfl (.tmp 12) (.tmp 15) 36 5 .u8 1 rfl Try.underlying36 info_u8 (by decide) _ [128 + (x : Int) % 128] _ (vint (x / 128)) rfl rfl hlit.out ho1.out.rd hsz (by simp; omega) _ rfl ?_; intro A2 c2 w2 hO2 hg2 hat2)
        go_ret
        exact ⟨_, rfl, by rw [hs.out]; exact hO2.out, bl_grown hB.out hlit.out hsz hg2.out⟩
theorem varint_all (x : Nat) (w : World) (h : x < 18446744073709551616) : Calls Try.prog 59 #[.int .u64 x] w (OwnPost w 5 .u8 (vint x)) :=
  varint_any 9 x w (by omega) h
theorem rUint_yes (n : Nat) (w : World) (h : n < 9223372036854775808) :
    Calls Try.prog 23 #[.int .i64 n] w (OwnPost2 w 5 .u8 (vint n) 0) := by
  go_enter Try.func23, Try.ntmps23
  go_wp2_with (go_at_call 59; refine use_own (varint_all n _ (by omega)) ?_; intro v1 w1 hb1 ho1)
  go_ret2
  exact ⟨_, rfl, ho1.out, hb1.out⟩
theorem rUint_no (n : Int) (w : World) (h : n < 0) :
    Calls Try.prog 23 #[.int .i64 n] w fun e w' => e = .returned (.tuple #[.slice none 0 0, .int .i64 1]) ∧ Below w.heap.size w w' := by
  go_enter Try.func23, Try.ntmps23
  go_wp2
  go_ret2
  exact ⟨rfl, by repeat (first | exact Below.refl _ _ | apply bl_alloc | apply bl_drew | apply bl_drewN | (refine bl_tr' (by assumption) ?_))⟩
theorem zigzag_any (n : Int) (w : World) (h : I64 n) :
    Calls Try.prog 60 #[.int .i64 n] w fun e w' => e = .returned (.int .u64 (zig n)) ∧ Below w.heap.size w w' := by
  unfold I64 at h
  obtain ⟨h1, h2⟩ := h
  by_cases h0 : 0 ≤ n
  · go_enter Try.func60, Try.ntmps60
    go_wp2
    go_ret
    refine ⟨ret_t1 (?_ : _ = (zig n : Int)), by repeat (first | exact Below.refl _ _ | apply bl_alloc | apply bl_drew | apply bl_drewN | (refine bl_tr' (by assumption) ?_))⟩
    unfold zig; rw [if_pos (by omega)]; (try simp only [wrap_u64]); omega
  · go_enter Try.func60, Try.ntmps60
    go_wp2
    go_ret
    refine ⟨ret_t1 (?_ : _ = (zig n : Int)), by repeat (first | exact Below.refl _ _ | apply bl_alloc | apply bl_drew | apply bl_drewN | (refine bl_tr' (by assumption) ?_))⟩
    unfold zig; rw [if_neg (by omega)]; (try simp only [wrap_u64]); omega
theorem rInt_any (n : Int) (w : World) (h : I64 n) :
    Calls Try.prog 27 #[.int .i64 n] w (OwnPost w 5 .u8 (vint (zig n))) := by
  have hl := zig_lt h
  have H := Lib.hid h
  clear h
  go_enter Try.func27, Try.ntmps27
  go_wp2_with (first | (go_at_call 60; refine use_b (zigzag_any n _ H.out) ?_; intro w1 hb1) | (go_at_call 59; refine use_own (varint_all (zig n) _ hl) ?_; intro v2 w2 hb2 ho2))
  go_ret
  exact ⟨_, rfl, OwI.lower ho2.out hb1.out.size, bl_tr hb1.out hb2.out⟩
/-- draws alone -/
def Drw (w w' : World) : Prop := ∃ n, w' = w.drewN n
theorem Drw.refl (w : World) : Drw w w := ⟨0, rfl⟩
theorem Drw.step {w w' : World} (h : Drw w w') (n : Nat) : Drw w (w'.drewN n) := by
  obtain ⟨m, rfl⟩ := h
  exact ⟨m + n, World.drewN_drewN ..⟩
theorem Drw.below {w w' : World} (h : Drw w w') : Below w.heap.size w w' := by
  obtain ⟨n, rfl⟩ := h
  exact bl_drewN (Below.refl _ _) n
theorem take_eq_succ {la lb : List Int} {k : Nat} (h1 : k < la.length) (h2 : k < lb.length) (h : la.take k = lb.take k) (e : la.getD k 0 = lb.getD k 0) : la.take (k + 1) = lb.take (k + 1) := by
  rw [List.take_succ_eq_append_getElem h1, List.take_succ_eq_append_getElem h2, h]
  simp [List.getD_eq_getElem?_getD, List.getElem?_eq_getElem h1, List.getElem?_eq_getElem h2] at e
  rw [e]
def SameRel (w : World) (n : Nat) (la lb : List Int) (i : Value) (wr : World) : Prop :=
  ∃ k : Nat, k ≤ n ∧ i = .int .i64 k ∧ la.take k = lb.take k ∧ Drw w wr
/-- The bytes of two lists alike. -/
theorem same_len (A B : Option Addr) (ca cb n : Nat) (la lb : List Int) (w : World) (hla : Hid (la.length = n)) (hlb : Hid (lb.length = n)) (hA : Hid (RdI w .u8 A la)) (hB : Hid (RdI w .u8 B lb)) (hn : n ≤ 9223372036854775807) :
    Calls Try.prog 25 #[.slice A n ca, .slice B n cb] w fun e w' => e = .returned (.bool (decide (la = lb))) ∧ Below w.heap.size w w' := by
  go_enter Try.func25, Try.ntmps25
  go_wp2_with fail
  go_loopw [5] (fun i wr => SameRel w n la lb i wr) (fun i _ => n - (intOf i).toNat)
  case atStart => exact ⟨0, Nat.zero_le _, rfl, rfl, Drw.refl _⟩
  case round =>
    obtain ⟨k, hk, rfl, he, m, rfl⟩ := hrel
    have HE := Lib.hid he
    clear he
    by_cases hlt : k < n
    · obtain ⟨a, rfl, ha⟩ := hA.out.at_ k (by rw [hla.out]; exact hlt)
      obtain ⟨b, rfl, hb⟩ := hB.out.at_ k (by rw [hlb.out]; exact hlt)
      obtain ⟨x, hx⟩ : ∃ x, la.getD k 0 = x := ⟨_, rfl⟩
      obtain ⟨y, hy⟩ : ∃ y, lb.getD k 0 = y := ⟨_, rfl⟩
      rw [hx] at ha
      rw [hy] at hb
      have HX := Lib.hid hx
      have HY := Lib.hid hy
      clear hx hy
      have p0 : 0 ≤ (k : Int) := by omega
      have p1 : (k : Int) < (n : Int) := by omega
      by_cases e : x = y
      · have e1 : (x == y) = true := by simpa using e
        have e2 : (x != y) = false := by simpa using e
        clear e
        go_wp2
        go_quiet (fail)
        go_wp2
        go_roundw
        case measure => simp [intOf]; omega
        case rel => exact ⟨k + 1, by omega, by go_num, take_eq_succ (by rw [hla.out]; exact hlt) (by rw [hlb.out]; exact hlt) HE.out (by rw [HX.out, HY.out]; simpa using e1), by repeat (first | exact Drw.refl _ | apply Drw.step | exact ⟨_, rfl⟩)⟩
      · have e1 : (x == y) = false := by simpa using e
        have e2 : (x != y) = true := by simpa using e
        have hne := Lib.hid (show la ≠ lb from fun h => e (by rw [← HX.out, ← HY.out, h]))
        clear e
        go_wp2
        go_quiet (fail)
        go_wp2
        go_ret
        exact ⟨ret_b (by simpa using hne.out), by repeat (first | exact Below.refl _ _ | apply bl_alloc | apply bl_drew | apply bl_drewN | (refine bl_tr' (by assumption) ?_))⟩
    · go_wp2
      go_ret
      refine ⟨ret_b (?_ : true = decide (la = lb)), by repeat (first | exact Below.refl _ _ | apply bl_alloc | apply bl_drew | apply bl_drewN | (refine bl_tr' (by assumption) ?_))⟩
      have h1 := HE.out
      rw [List.take_of_length_le (by rw [hla.out]; omega), List.take_of_length_le (by rw [hlb.out]; omega)] at h1
      simp [h1]
theorem same_any (va vb : Value) (la lb : List Int) (w : World) (ha : RdS w .u8 va la) (hb : RdS w .u8 vb lb) :
    Calls Try.prog 25 #[va, vb] w fun e w' => e = .returned (.bool (decide (la = lb))) ∧ Below w.heap.size w w' := by
  obtain ⟨A, ca, rfl, -, -, hA⟩ := ha
  obtain ⟨B, cb, rfl, -, -, hB⟩ := hb
  by_cases h : la.length = lb.length
  · rw [← h]
    exact same_len A B ca cb la.length la lb w rfl h.symm hA hB hA.1
  · have e1 : (la.length == lb.length) = false := by simpa using h
    have e2 : ((la.length : Int) == (lb.length : Int)) = false := by simpa using (by omega : ¬ (la.length : Int) = lb.length)
    have hne := Lib.hid (show la ≠ lb from fun h' => h (by rw [h']))
    clear h
    go_enter Try.func25, Try.ntmps25
    go_wp2
    go_ret
    exact ⟨ret_b (by simpa using hne.out), by repeat (first | exact Below.refl _ _ | apply bl_alloc | apply bl_drew | apply bl_drewN | (refine bl_tr' (by assumption) ?_))⟩
end Go.Proofs.Ytehcimecmbcdfaa
