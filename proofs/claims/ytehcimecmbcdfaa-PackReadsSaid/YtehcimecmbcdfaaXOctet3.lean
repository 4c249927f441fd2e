/- Contracts: the reader of bytes, its numbers and bytes. -/
import Derived.Test.YtehcimecmbcdfaaXOctet2
set_option linter.unusedSimpArgs false
set_option linter.unusedVariables false
namespace Go.Proofs.Ytehcimecmbcdfaa
open Go.RowKit

theorem vgo_facts : ∀ (l : List Int) (i x n : Nat), i ≤ 9 → Byt l → vgo i l = .ok x n → n ≤ l.length ∧ 1 ≤ n ∧ x < 2 ^ (64 - 7 * i)
  | [], i, x, n, _, _, h => by simp [vgo] at h
  | c :: t, i, x, n, hi, hb, h => by
    have hc := hb c (by simp)
    rw [vgo] at h
    by_cases h1 : i = 9 ∧ 1 < c
    · rw [if_pos h1] at h; cases h
    · rw [if_neg h1] at h
      by_cases h2 : 128 ≤ c
      · rw [if_pos h2] at h
        cases hv : vgo (i + 1) t with
        | short => rw [hv] at h; cases h
        | form => rw [hv] at h; cases h
        | ok x' n' =>
          rw [hv] at h
          obtain ⟨e1, e2⟩ : (c % 128).toNat + 128 * x' = x ∧ n' + 1 = n := by simpa [VR.step] using h
          obtain ⟨k1, k2, k3⟩ := vgo_facts t (i + 1) x' n' (by omega) (fun y hy => hb y (by simp [hy])) hv
          have hp : 2 ^ (64 - 7 * i) = 128 * 2 ^ (64 - 7 * (i + 1)) := by
            rw [show 64 - 7 * i = 7 + (64 - 7 * (i + 1)) by omega, Nat.pow_add]
          refine ⟨by simp; omega, by omega, ?_⟩
          rw [hp]; omega
      · rw [if_neg h2] at h
        by_cases h3 : c = 0 ∧ 0 < i
        · rw [if_pos h3] at h; cases h
        · rw [if_neg h3] at h
          obtain ⟨e1, e2⟩ : c.toNat = x ∧ 1 = n := by simpa using h
          subst e2
          refine ⟨by simp, Nat.le_refl _, ?_⟩
          by_cases h9 : i = 9
          · subst h9
            have : ¬ 1 < c := fun h => h1 ⟨rfl, h⟩
            simp; omega
          · have : 2 ^ 8 ≤ 2 ^ (64 - 7 * i) := Nat.pow_le_pow_right (by decide) (by omega)
            omega
theorem vread_facts {l : List Int} {x n : Nat} (hb : Byt l) (h : vread l = .ok x n) : n ≤ l.length ∧ 1 ≤ n ∧ x < 18446744073709551616 := vgo_facts l 0 x n (by omega) hb h
theorem Byt.drop {l : List Int} (h : Byt l) (n : Nat) : Byt (l.drop n) := fun c hc => h c (List.mem_of_mem_drop hc)
theorem Byt.take {l : List Int} (h : Byt l) (n : Nat) : Byt (l.take n) := fun c hc => h c (List.mem_of_mem_take hc)

/-- a number from 0 on at the head of bytes: the number, how many bytes, the error -/
def uintOf (l : List Int) : Int × Nat × Int := match vread l with
  | .short => (0, 0, 2)
  | .form => (0, 0, 3)
  | .ok x n => if x < 9223372036854775808 then (x, n, 0) else (0, 0, 3)
def unzig (x : Nat) : Int := if x % 2 = 0 then x / 2 else -(x / 2) - 1
def sintOf (l : List Int) : Int × Nat × Int := match vread l with
  | .short => (0, 0, 2)
  | .form => (0, 0, 3)
  | .ok x n => (unzig x, n, 0)
theorem Rdr.set {w : World} {b : Nat} {l : List Int} {pos : Nat} (h : Rdr w b l pos) (p : Nat) (hp : p ≤ l.length) : Rdr (w.setCell ⟨b, 1, none⟩ (.int .i64 p)) b l p := by
  obtain ⟨sv, base, h1, h2, h3⟩ := h
  exact ⟨sv, base, blk_set h1 1 _, h2.kp ((Kp.refl (· = b) w).set rfl _) (fun x hx e => h2.ne h1 (by decide) (by rw [hx, e])), hp, h3.2⟩
def RdPost (w : World) (b : Nat) (l : List Int) (pos : Nat) (r : Int × Nat × Int) (e : Ending) (w' : World) : Prop :=
  e = .returned (.tuple #[.int .i64 r.1, .int .i64 r.2.2]) ∧ Rdr w' b l (pos + r.2.1) ∧ Kp (· = b) w w'
theorem use_var {b : Nat} {l : List Int} {pos : Nat} {w : World} {R : Ending → World → Prop} (h : Rdr w b l pos) (hby : Byt l) (v : Value)
    (hv : ∀ e w', VarPost w (vread (l.drop pos)) pos e w' → e = .returned v)
    (k : ∀ w1, Hid (Below w.heap.size w w1) → Hid (Rdr w1 b l pos) → R (.returned v) w1) :
    Calls Try.prog 61 #[.pointer (some ⟨b, 0, none⟩)] w R :=
  (octVarint b l pos w h hby).mono fun e w1 hp => by
    obtain rfl := hv e w1 hp
    exact k w1 hp.2 (h.below hp.2)
theorem Rdr.cells {w : World} {b : Nat} {l : List Int} {pos : Nat} (h : Rdr w b l pos) : w.cell? ⟨b, 1, none⟩ = some (.int .i64 pos) ∧ w.frozen? ⟨b, 1, none⟩ = false := by
  obtain ⟨sv, base, h1, -⟩ := h
  exact ⟨blk_cell h1 1, blk_frozen h1 1⟩
theorem shr63 (x : Nat) (hx : x < 18446744073709551616) : ((x : Int) / 9223372036854775808 != 0) = decide (¬ x < 9223372036854775808) := by
  by_cases h : x < 9223372036854775808
  · have : (x : Int) / 9223372036854775808 = 0 := by omega
    simp [this, h]
  · have : (x : Int) / 9223372036854775808 = 1 := by omega
    simp [this]; omega
set_option maxHeartbeats 400000 in
theorem octRUint (b : Nat) (l : List Int) (pos : Nat) (w : World) (h : Rdr w b l pos) (hby : Byt l) :
    Calls Try.prog 33 #[.pointer (some ⟨b, 0, none⟩)] w (RdPost w b l pos (uintOf (l.drop pos))) := by
  have H := Lib.hid h
  have HB := Lib.hid hby
  have hsz : l.length ≤ 140737488355328 := by obtain ⟨_, _, _, _, _, h⟩ := h; exact h
  clear h hby
  cases hv : vread (l.drop pos) with
  | short =>
    have HV := Lib.hid hv
    clear hv
    go_enter Try.func33, Try.ntmps33
    go_wp2_with (go_at_call 61; refine use_var H.out HB.out (.tuple #[.int .u64 0, .int .i64 0, .int .i64 2]) (by intro e w' hp; unfold VarPost at hp; rw [HV.out] at hp; exact hp.1) ?_; intro w1 hb1 h1)
    go_ret2
    refine ⟨?_, ?_, Kp.of_below hb1.out⟩ <;> simp only [uintOf, HV.out]
    · rfl
    · exact h1.out
  | form =>
    have HV := Lib.hid hv
    clear hv
    go_enter Try.func33, Try.ntmps33
    go_wp2_with (go_at_call 61; refine use_var H.out HB.out (.tuple #[.int .u64 0, .int .i64 0, .int .i64 3]) (by intro e w' hp; unfold VarPost at hp; rw [HV.out] at hp; exact hp.1) ?_; intro w1 hb1 h1)
    go_ret2
    refine ⟨?_, ?_, Kp.of_below hb1.out⟩ <;> simp only [uintOf, HV.out]
    · rfl
    · exact h1.out
  | ok x n =>
    obtain ⟨f1, f2, f3⟩ := vread_facts (HB.out.drop pos) hv
    have hpn : pos + n ≤ l.length := by
      rw [List.length_drop] at f1
      obtain ⟨_, _, _, _, hp, _⟩ := H.out
      omega
    have HV := Lib.hid hv
    clear hv f1
    have e0 := shr63 x f3
    by_cases hx : x < 9223372036854775808
    · rw [decide_eq_false (by simpa using hx)] at e0
      go_enter Try.func33, Try.ntmps33
      go_wp2_with (go_at_call 61; refine use_var H.out HB.out (.tuple #[.int .u64 x, .int .i64 (pos + n : Nat), .int .i64 0]) (by intro e w' hp; unfold VarPost at hp; rw [HV.out] at hp; exact hp.1) ?_; intro w1 hb1 h1; obtain ⟨c1, z1⟩ := h1.out.cells)
      go_ret2
      refine ⟨?_, ?_, Kp.set (S := (· = b)) (Kp.of_below hb1.out) rfl _⟩ <;> simp only [uintOf, HV.out, if_pos hx]
      · exact ret_t2 (by first | rfl | omega) rfl
      · exact h1.out.set (pos + n) hpn
    · rw [decide_eq_true (by simpa using hx)] at e0
      go_enter Try.func33, Try.ntmps33
      go_wp2_with (go_at_call 61; refine use_var H.out HB.out (.tuple #[.int .u64 x, .int .i64 (pos + n : Nat), .int .i64 0]) (by intro e w' hp; unfold VarPost at hp; rw [HV.out] at hp; exact hp.1) ?_; intro w1 hb1 h1; obtain ⟨c1, z1⟩ := h1.out.cells)
      go_ret2
      refine ⟨?_, ?_, Kp.of_below hb1.out⟩ <;> simp only [uintOf, HV.out, if_neg (show ¬ x < 9223372036854775808 by omega)]
      · rfl
      · exact h1.out

theorem and1_u64 (x : Nat) (hx : x < 18446744073709551616) : bits .and .u64 (x : Int) 1 = ((x % 2 : Nat) : Int) := by
  show IntKind.u64.wrap ((BitVec.ofInt 64 (x : Int) &&& BitVec.ofInt 64 1).toNat : Int) = _
  rw [BitVec.ofInt_natCast, show BitVec.ofInt 64 1 = BitVec.ofNat 64 1 from rfl, BitVec.toNat_and, BitVec.toNat_ofNat, BitVec.toNat_ofNat, Nat.mod_eq_of_lt (by omega), show (1 % 2 ^ 64 : Nat) = 2 ^ 1 - 1 from rfl, Nat.and_two_pow_sub_one_eq_mod, wrap_u64]
  omega
theorem unzig_xor (x : Nat) (hx : x < 18446744073709551616) : bits .xor .i64 ((x : Int) / 2) (wrap64 (-wrap64 (bits .and .u64 (x : Int) 1))) = unzig x := by
  rw [and1_u64 x hx, show wrap64 ((x % 2 : Nat) : Int) = ((x % 2 : Nat) : Int) by unfold wrap64; omega]
  unfold unzig
  by_cases h : x % 2 = 0
  · rw [if_pos h, h, show wrap64 (-((0 : Nat) : Int)) = 0 by decide +kernel]
    exact xor0_i64 _ (by omega)
  · rw [if_neg h, show x % 2 = 1 by omega, show wrap64 (-((1 : Nat) : Int)) = -1 by decide +kernel]
    exact xorm_i64 _ (by omega)
set_option maxHeartbeats 400000 in
theorem octRInt (b : Nat) (l : List Int) (pos : Nat) (w : World) (h : Rdr w b l pos) (hby : Byt l) :
    Calls Try.prog 34 #[.pointer (some ⟨b, 0, none⟩)] w (RdPost w b l pos (sintOf (l.drop pos))) := by
  have H := Lib.hid h
  have HB := Lib.hid hby
  have hsz : l.length ≤ 140737488355328 := by obtain ⟨_, _, _, _, _, h⟩ := h; exact h
  clear h hby
  cases hv : vread (l.drop pos) with
  | short =>
    have HV := Lib.hid hv
    clear hv
    go_enter Try.func34, Try.ntmps34
    go_wp2_with (go_at_call 61; refine use_var H.out HB.out (.tuple #[.int .u64 0, .int .i64 0, .int .i64 2]) (by intro e w' hp; unfold VarPost at hp; rw [HV.out] at hp; exact hp.1) ?_; intro w1 hb1 h1)
    go_ret2
    refine ⟨?_, ?_, Kp.of_below hb1.out⟩ <;> simp only [sintOf, HV.out]
    · rfl
    · exact h1.out
  | form =>
    have HV := Lib.hid hv
    clear hv
    go_enter Try.func34, Try.ntmps34
    go_wp2_with (go_at_call 61; refine use_var H.out HB.out (.tuple #[.int .u64 0, .int .i64 0, .int .i64 3]) (by intro e w' hp; unfold VarPost at hp; rw [HV.out] at hp; exact hp.1) ?_; intro w1 hb1 h1)
    go_ret2
    refine ⟨?_, ?_, Kp.of_below hb1.out⟩ <;> simp only [sintOf, HV.out]
    · rfl
    · exact h1.out
  | ok x n =>
    obtain ⟨f1, f2, f3⟩ := vread_facts (HB.out.drop pos) hv
    have hpn : pos + n ≤ l.length := by
      rw [List.length_drop] at f1
      obtain ⟨_, _, _, _, hp, _⟩ := H.out
      omega
    have HV := Lib.hid hv
    have hu := Lib.hid (unzig_xor x f3)
    clear hv f1
    go_enter Try.func34, Try.ntmps34
    go_wp2_with (go_at_call 61; refine use_var H.out HB.out (.tuple #[.int .u64 x, .int .i64 (pos + n : Nat), .int .i64 0]) (by intro e w' hp; unfold VarPost at hp; rw [HV.out] at hp; exact hp.1) ?_; intro w1 hb1 h1; obtain ⟨c1, z1⟩ := h1.out.cells)
    go_ret2
    refine ⟨?_, ?_, Kp.set (S := (· = b)) (Kp.of_below hb1.out) rfl _⟩ <;> simp only [sintOf, HV.out]
    · exact ret_t2 hu.out rfl
    · exact h1.out.set (pos + n) hpn
theorem octRUint_nil (w : World) : Calls Try.prog 33 #[.pointer none] w fun e w' => e = .returned (.tuple #[.int .i64 0, .int .i64 1]) ∧ Below w.heap.size w w' := by
  go_enter Try.func33, Try.ntmps33
  go_wp2
  go_ret2
  exact ⟨rfl, by repeat (first | exact Below.refl _ _ | apply bl_alloc | apply bl_drew | apply bl_drewN | (refine bl_tr' (by assumption) ?_))⟩
theorem octRInt_nil (w : World) : Calls Try.prog 34 #[.pointer none] w fun e w' => e = .returned (.tuple #[.int .i64 0, .int .i64 1]) ∧ Below w.heap.size w w' := by
  go_enter Try.func34, Try.ntmps34
  go_wp2
  go_ret2
  exact ⟨rfl, by repeat (first | exact Below.refl _ _ | apply bl_alloc | apply bl_drew | apply bl_drewN | (refine bl_tr' (by assumption) ?_))⟩
theorem octBytes_nil (n : Int) (w : World) : Calls Try.prog 39 #[.pointer none, .int .i64 n] w fun e w' => e = .returned (.tuple #[.slice none 0 0, .int .i64 1]) ∧ Below w.heap.size w w' := by
  go_enter Try.func39, Try.ntmps39
  go_wp2
  go_ret2
  exact ⟨rfl, by repeat (first | exact Below.refl _ _ | apply bl_alloc | apply bl_drew | apply bl_drewN | (refine bl_tr' (by assumption) ?_))⟩
theorem octByte_nil (w : World) : Calls Try.prog 38 #[.pointer none] w fun e w' => e = .returned (.tuple #[.int .i64 0, .int .i64 1]) ∧ Below w.heap.size w w' := by
  go_enter Try.func38, Try.ntmps38
  go_wp2_with (first | (go_at_call 39; refine (octBytes_nil 1 _).mono ?_; rintro e w1 ⟨rfl, hb1⟩; have HB1 := Lib.hid hb1; clear hb1))
  go_ret2
  exact ⟨rfl, HB1.out⟩
/-- n bytes of a reader -/
def BytesPost (w : World) (b : Nat) (l : List Int) (pos : Nat) (r : List Int) (er : Int) (e : Ending) (w' : World) : Prop :=
  ∃ v, e = .returned (.tuple #[v, .int .i64 er]) ∧ OwI w' w.heap.size 5 .u8 v r ∧ Rdr w' b l (pos + r.length) ∧ Kp (· = b) w w' ∧ w'.cell? ⟨b, 0, none⟩ = w.cell? ⟨b, 0, none⟩
set_option maxHeartbeats 1000000 in
theorem octBytes_yes (b : Nat) (l : List Int) (pos n : Nat) (w : World) (h : Rdr w b l pos) (hn : pos + n ≤ l.length) :
    Calls Try.prog 39 #[.pointer (some ⟨b, 0, none⟩), .int .i64 n] w (BytesPost w b l pos ((l.drop pos).take n) 0) := by
  have H := Lib.hid h
  obtain ⟨sv, base, h1, h2, h3, h4⟩ := h
  obtain ⟨A, c, rfl, hc, hA0, hA⟩ := h2.rd
  obtain ⟨i0, hi, hz0, hz1, hz2⟩ := info_parts info_u8
  obtain ⟨A', c', hcut, hcr⟩ := cut_lh 36 5 Try.underlying36 hi hz1 A c l pos (pos + n) (by omega) hn hc hA0
  have c0 : w.cell? ⟨b, 0, none⟩ = _ := blk_cell h1 0
  have c1 : w.cell? ⟨b, 1, none⟩ = _ := blk_cell h1 1
  simp only [Nat.add_sub_cancel_left] at hcut hcr
  rw [show ((pos + n : Nat) : Int) = (pos : Int) + n by omega] at hcut
  have hlen : ((l.take (pos + n)).drop pos).length = n := by rw [List.length_drop, List.length_take]; omega
  have hcr' := Lib.hid (hcr w .u8 hA)
  have HL := Lib.hid hlen
  have H1 := Lib.hid h1
  have H2 := Lib.hid h2
  have hb := blk_lt h1
  clear h1 h2 hA hcr hA0 hlen hi hz0 hz1 hz2
  go_enter Try.func39, Try.ntmps39
  go_wp2
  go_quiet (fail)
  go_wp2
  have hwr : IntKind.i64.wrap ((pos : Int) + (n : Int)) = (pos : Int) + (n : Int) := by rw [IntKind.wrap_i64]; omega
  have z1 : w.frozen? ⟨b, 1, none⟩ = false := blk_frozen H1.out 1
  go_region_held3 (fun w' => w'.cell? ⟨b, 0, none⟩ = some (.slice A l.length c) ∧ w'.cell? ⟨b, 1, none⟩ = some (.int .i64 pos)) (first | go_keep | (go_split_ands; exact ⟨(hg1.out.cell_far ⟨b, 0, none⟩ (by simp; omega) (by simp [Value.ownBlock]; omega)).trans (by go_simp), (hg1.out.cell_far ⟨b, 1, none⟩ (by simp; omega) (by simp [Value.ownBlock]; omega)).trans (by go_simp)⟩)) ((refine step_ap_row w.heap.size (by rfl) (.tmp 27) (.tmp 42) 36 5 .u8 1 (by rfl) Try.underlying36 info_u8 (by decide) (.slice (some ⟨w.heap.size, 0, none⟩) 0 0) [] (.slice A' n c') ((l.take (pos + n)).drop pos) (by rfl) (by rfl) (OwI.lit (k := .u8) (E := 5) [] (Nat.le_refl _) (by simp)) (RdS.below hcr'.out (bl_alloc (bl_drew (bl_drewN (Below.refl _ _) _)) _)) (by simp) (by have := HL.out; simp only [List.length_nil]; omega) n (by have := HL.out; simp only [List.length_nil]; omega) ?_; intro A1 c1 w1 hO1 hg1 hat1))
  have hb1 : Below w.heap.size w w1 := (bl_alloc (bl_drew (bl_drewN (Below.refl _ _) _)) _).grown hg1.out (by simp) (fun k hk => by simp [Value.ownBlock] at hk; omega)
  have q2 : w1.frozen? ⟨b, 1, none⟩ = false := (hb1.frozen (p := ⟨b, 1, none⟩) hb).trans z1
  have HB1 := Lib.hid hb1
  clear hb1
  go_wp2
  go_ret2
  have hb1 := HB1.out
  have ho := hO1.out
  rw [List.nil_append, List.drop_take, Nat.add_sub_cancel_left] at ho
  have hlt : ((l.drop pos).take n).length = n := by rw [List.length_take, List.length_drop]; omega
  refine ⟨_, rfl, ho.kp ((Kp.refl (· = b) _).set rfl _) (fun x hx e => ?_), ?_, Kp.set (S := (· = b)) (Kp.of_below hb1) rfl _, ?_⟩
  · have := (ho.blockGe x hx).1
    omega
  · rw [hlt]
    exact (H.out.below hb1).set (pos + n) hn
  · exact (blk_cell (blk_set (blk_below H1.out hb1) 1 _) 0).trans c0.symm
theorem octBytes_short (b : Nat) (l : List Int) (pos n : Nat) (w : World) (h : Rdr w b l pos) (hn : l.length < pos + n) (hn2 : n ≤ 9223372036854775807) :
    Calls Try.prog 39 #[.pointer (some ⟨b, 0, none⟩), .int .i64 n] w fun e w' => e = .returned (.tuple #[.slice none 0 0, .int .i64 2]) ∧ Below w.heap.size w w' := by
  obtain ⟨sv, base, h1, h2, h3, h4⟩ := h
  obtain ⟨A, c, rfl, -⟩ := h2.rd
  have c0 : w.cell? ⟨b, 0, none⟩ = _ := blk_cell h1 0
  have c1 : w.cell? ⟨b, 1, none⟩ = _ := blk_cell h1 1
  have H1 := Lib.hid h1
  have H2 := Lib.hid h2
  clear h1 h2
  go_enter Try.func39, Try.ntmps39
  go_wp2
  go_quiet (fail)
  go_wp2
  go_ret2
  exact ⟨rfl, by repeat (first | exact Below.refl _ _ | apply bl_alloc | apply bl_drew | apply bl_drewN | (refine bl_tr' (by assumption) ?_))⟩
theorem octBytes_neg (b : Nat) (n : Int) (w : World) (hn : n < 0) :
    Calls Try.prog 39 #[.pointer (some ⟨b, 0, none⟩), .int .i64 n] w fun e w' => e = .returned (.tuple #[.slice none 0 0, .int .i64 1]) ∧ Below w.heap.size w w' := by
  go_enter Try.func39, Try.ntmps39
  go_wp2
  go_ret2
  exact ⟨rfl, by repeat (first | exact Below.refl _ _ | apply bl_alloc | apply bl_drew | apply bl_drewN | (refine bl_tr' (by assumption) ?_))⟩
theorem use_bytes {P : Program} {f : FuncId} {args : Array Value} {b : Nat} {l : List Int} {pos : Nat} {w : World} {r : List Int} {er : Int} {R : Ending → World → Prop} (h : Calls P f args w (BytesPost w b l pos r er))
    (k : ∀ A c w1, Hid (OwI w1 w.heap.size 5 .u8 (.slice A r.length c) r) → Hid (Rdr w1 b l (pos + r.length)) → Hid (Kp (· = b) w w1) → R (.returned (.tuple #[.slice A r.length c, .int .i64 er])) w1) : Calls P f args w R :=
  h.mono fun e w1 ⟨v, he, ho, hr, hk, _⟩ => by
    obtain ⟨A, c, rfl⟩ := ho.form
    subst he
    exact k A c w1 ho hr hk
theorem octByte_yes (b : Nat) (l : List Int) (pos : Nat) (w : World) (h : Rdr w b l pos) (hn : pos < l.length) (hby : Byt l) :
    Calls Try.prog 38 #[.pointer (some ⟨b, 0, none⟩)] w (RdPost w b l pos (l.getD pos 0, 1, 0)) := by
  obtain ⟨hc0, hc1⟩ := hby.getD pos hn
  have hd : (l.drop pos).take 1 = [l.getD pos 0] := by rw [drop_getD hn]; rfl
  have HD := Lib.hid hd
  have H := Lib.hid h
  clear h hd
  obtain ⟨x, hx⟩ : ∃ x, l.getD pos 0 = x := ⟨_, rfl⟩
  rw [hx] at hc0 hc1 HD ⊢
  have HX := Lib.hid hx
  clear hx
  go_enter Try.func38, Try.ntmps38
  go_wp2_with (first | (go_at_call 39; refine use_bytes (octBytes_yes b l pos 1 _ H.out (by omega)) ?_; rw [HD.out]; intro A c w1 ho1 hr1 hk1; obtain ⟨A', c', hv, -, -, hrd⟩ := ho1.out.rd; obtain ⟨ad, had, hcell⟩ := hrd.at_ 0 (by simp); obtain ⟨rfl, -, rfl⟩ : A = A' ∧ True ∧ c = c' := (by simpa using hv); obtain rfl := had; have hcell' : w1.cell? ad = some (.int .u8 x) := hcell; clear hcell hv hrd))
  go_ret2
  exact ⟨rfl, hr1.out, hk1.out⟩
theorem octByte_short (b : Nat) (l : List Int) (pos : Nat) (w : World) (h : Rdr w b l pos) (hn : l.length ≤ pos) :
    Calls Try.prog 38 #[.pointer (some ⟨b, 0, none⟩)] w fun e w' => e = .returned (.tuple #[.int .i64 0, .int .i64 2]) ∧ Below w.heap.size w w' := by
  have H := Lib.hid h
  clear h
  go_enter Try.func38, Try.ntmps38
  go_wp2_with (first | (go_at_call 39; refine use_b (octBytes_short b l pos 1 _ H.out (by omega) (by omega)) ?_; intro w1 hb1))
  go_ret2
  exact ⟨rfl, by repeat (first | exact Below.refl _ _ | apply bl_alloc | apply bl_drew | apply bl_drewN | (refine bl_tr' (by assumption) ?_))⟩
end Go.Proofs.Ytehcimecmbcdfaa
