/- Contracts: the reference's Read, ReadUint, ReadInt. -/
import Derived.Test.YtehcimecmbcdfaaXOctet3
set_option linter.unusedSimpArgs false
set_option linter.unusedVariables false
namespace Go.Proofs.Ytehcimecmbcdfaa
open Go.RowKit

def VR.pre : List Int → VR → VR
  | [], r => r
  | c :: t, r => (VR.pre t r).step c
def hor : List Int → Nat → Nat
  | [], x => x
  | c :: t, x => (c % 128).toNat + 128 * hor t x
theorem pre_ok : ∀ (cs : List Int) (x n : Nat), VR.pre cs (.ok x n) = .ok (hor cs x) (cs.length + n)
  | [], x, n => by simp [VR.pre, hor]
  | c :: t, x, n => by rw [VR.pre, pre_ok t x n]; simp [VR.step, hor]; omega
theorem pre_short : ∀ (cs : List Int), VR.pre cs .short = .short
  | [] => rfl
  | c :: t => by rw [VR.pre, pre_short t]; rfl
theorem pre_form : ∀ (cs : List Int), VR.pre cs .form = .form
  | [] => rfl
  | c :: t => by rw [VR.pre, pre_form t]; rfl
theorem vgo_pre : ∀ (k : Nat) (l : List Int) (i : Nat), i + k ≤ 9 → k ≤ l.length → (∀ j, j < k → 128 ≤ l.getD j 0) → vgo i l = VR.pre (l.take k) (vgo (i + k) (l.drop k))
  | 0, l, i, _, _, _ => by simp [VR.pre]
  | k + 1, [], i, _, h, _ => by simp at h
  | k + 1, c :: t, i, hi, hl, h => by
    have h0 := h 0 (by omega)
    simp at h0
    have ih := vgo_pre k t (i + 1) (by omega) (by simpa using hl) (fun j hj => by simpa using h (j + 1) (by omega))
    rw [vgo, if_neg (by omega), if_pos h0, ih]
    simp only [List.take_succ_cons, List.drop_succ_cons, VR.pre]
    rw [show i + 1 + k = i + (k + 1) by omega]
theorem hor_append : ∀ (a b : List Int) (x : Nat), hor (a ++ b) x = hor a (hor b x)
  | [], b, x => rfl
  | c :: t, b, x => by simp [hor, hor_append t b x]
theorem hor_ge : ∀ (a : List Int) (x : Nat), x ≤ hor a x
  | [], x => Nat.le_refl _
  | c :: t, x => by have := hor_ge t x; simp only [hor]; omega
theorem hor_drop_le (l : List Int) (j : Nat) : hor (l.drop j) 0 ≤ hor l 0 := by
  conv => rhs; rw [← List.take_append_drop j l, hor_append]
  exact hor_ge _ _

def ReadPost (w : World) (r : VR) (e : Ending) (w' : World) : Prop :=
  (match r with
    | .short => e = .returned (.tuple #[.int .u64 0, .int .i64 0, .int .i64 2])
    | .form => e = .returned (.tuple #[.int .u64 0, .int .i64 0, .int .i64 3])
    | .ok x n => e = .returned (.tuple #[.int .u64 x, .int .i64 n, .int .i64 0])) ∧ Below w.heap.size w w'
def Read2 (w : World) (l : List Int) (k : Nat) (x i : Value) (wr : World) : Prop :=
  w = wr ∧ ∃ j : Nat, j ≤ k + 1 ∧ i = .int .i64 ((j : Int) - 1) ∧ x = .int .u64 (hor ((l.take (k + 1)).drop j) 0 : Nat)
theorem read2_start (w : World) (l : List Int) (k : Nat) (hk : k < l.length) : Read2 w l k (.int .u64 0) (.int .i64 k) w := by
  refine ⟨rfl, k + 1, Nat.le_refl _, by congr 1; omega, ?_⟩
  rw [List.drop_of_length_le (by rw [List.length_take]; omega)]
  rfl
theorem read2_step (l : List Int) (k m : Nat) (hm : m < k + 1) (hk : k < l.length) : hor ((l.take (k + 1)).drop m) 0 = (l.getD m 0 % 128).toNat + 128 * hor ((l.take (k + 1)).drop (m + 1)) 0 := by
  rw [drop_getD (by rw [List.length_take]; omega)]
  simp only [hor, List.getD_eq_getElem?_getD, List.getElem?_take, if_pos hm]
set_option maxHeartbeats 1000000 in
theorem refRead (v : Value) (l : List Int) (w : World) (hv : RdS w .u8 v l) (hby : Byt l) :
    Calls Try.prog 83 #[v] w (ReadPost w (vread l)) := by
  obtain ⟨A, c, rfl, -, -, hA⟩ := hv
  have hmax := hA.1
  have HA := Lib.hid hA
  have HB := Lib.hid hby
  clear hA hby
  go_enter Try.func83, Try.ntmps83
  go_wp2_with fail
  go_loopw [5] (fun i wr => wr = w ∧ ∃ k : Nat, i = .int .i64 k ∧ k ≤ 9 ∧ k ≤ l.length ∧ ∀ j, j < k → 128 ≤ l.getD j 0) (fun i _ => 10 - (intOf i).toNat)
  case atStart => exact ⟨rfl, 0, rfl, by omega, by omega, fun j hj => by omega⟩
  case round =>
    obtain ⟨rfl, k, rfl, hk9, hkl, hall⟩ := hrel
    have HALL := Lib.hid hall
    clear hall
    have hpre := Lib.hid (vgo_pre k l 0 (by omega) hkl HALL.out)
    by_cases hlt : k < l.length
    · obtain ⟨ad, rfl, hcell⟩ := HA.out.at_ k hlt
      obtain ⟨c', hc'⟩ : ∃ x, l.getD k 0 = x := ⟨_, rfl⟩
      obtain ⟨hb0, hb1⟩ := HB.out.getD k hlt
      have hd := Lib.hid (drop_getD hlt)
      rw [hc'] at hcell hb0 hb1
      have HC := Lib.hid hc'
      clear hc'
      have p0 : 0 ≤ (k : Int) := by omega
      have p1 : (k : Int) < (l.length : Int) := by omega
      by_cases hgo : 128 ≤ c' ∧ k < 9
      · obtain ⟨g1, g2⟩ := hgo
        go_wp2
        go_roundw
        case measure => simp [intOf]; omega
        case rel =>
          refine ⟨by first | rfl | trivial, k + 1, by go_num, by omega, by omega, fun j hj => ?_⟩
          by_cases hjk : j = k
          · subst hjk; rw [HC.out]; exact g1
          · exact HALL.out j (by omega)
      · have p2 : ((k : Int) == (l.length : Int)) = false := by simp; omega
        have p3 : (k == l.length) = false := by simp; omega
        by_cases hf : (k = 9 ∧ 1 < c') ∨ (0 < k ∧ c' = 0)
        · have hform := Lib.hid (show vread l = .form by
            unfold vread
            rw [hpre.out, hd.out, HC.out, Nat.zero_add, vgo]
            rcases hf with hf | hf
            · rw [if_pos hf, pre_form]
            · rw [if_neg (by omega), if_neg (by omega), if_pos ⟨hf.2, hf.1⟩, pre_form])
          rcases hf with ⟨hk, hc1⟩ | ⟨hk0, hc0⟩
          · subst hk
            have hcell9 : wr.cell? ⟨ad.block, ad.off + 9, none⟩ = some (.int .u8 c') := hcell
            clear hgo
            go_wp2
            all_goals
              go_ret3
              exact ⟨by rw [hform.out]; rfl, by repeat (first | exact Below.refl _ _ | apply bl_alloc | apply bl_drew | apply bl_drewN | (refine bl_tr' (by assumption) ?_))⟩
          · have hc1 : (c' == 0) = true := by simpa using hc0
            have hc2 : c' ≤ 0 := by omega
            clear hc0 hgo
            by_cases hk : k = 9
            · subst hk
              have hcell9 : wr.cell? ⟨ad.block, ad.off + 9, none⟩ = some (.int .u8 c') := hcell
              go_wp2
              go_ret3
              exact ⟨by rw [hform.out]; rfl, by repeat (first | exact Below.refl _ _ | apply bl_alloc | apply bl_drew | apply bl_drewN | (refine bl_tr' (by assumption) ?_))⟩
            · have e9 : ((k : Int) == 9) = false := by simp; omega
              clear hk
              go_wp2
              go_ret3
              exact ⟨by rw [hform.out]; rfl, by repeat (first | exact Below.refl _ _ | apply bl_alloc | apply bl_drew | apply bl_drewN | (refine bl_tr' (by assumption) ?_))⟩
        · have hok := Lib.hid (show vread l = .ok (hor (l.take (k + 1)) 0) (k + 1) by
            unfold vread
            rw [hpre.out, hd.out, HC.out, Nat.zero_add, vgo, if_neg (by omega), if_neg (by omega), if_neg (by omega), pre_ok]
            have e1 : l.take (k + 1) = l.take k ++ [c'] := by
              rw [List.take_succ_eq_append_getElem hlt, ← HC.out, List.getD_eq_getElem?_getD, List.getElem?_eq_getElem hlt]; rfl
            rw [e1, hor_append]
            congr 1
            · simp only [hor]
              congr 1
              omega
            · rw [List.length_take]; omega)
          have hcx : c' < 128 := by omega
          have e1 : (k ≤ 0 ∧ ((k : Int) == 9) = false) ∨ (0 < k ∧ ((k : Int) == 9) = false ∧ (c' == 0) = false) ∨ (0 < k ∧ ((k : Int) == 9) = true ∧ (c' == 0) = false ∧ c' ≤ 1 ∧ 9 < l.length ∧ wr.cell? ⟨ad.block, ad.off + 9, none⟩ = some (.int .u8 c')) := by
            by_cases hk : k ≤ 0
            · exact .inl ⟨hk, by simp; omega⟩
            · by_cases hk9 : k = 9
              · exact .inr (.inr ⟨by omega, by simp; omega, by simp; omega, by omega, by omega, by rw [hk9] at hcell; exact hcell⟩)
              · exact .inr (.inl ⟨by omega, by simp; omega, by simp; omega⟩)
          clear hf hgo
          have hx9 := Lib.hid (vread_facts HB.out hok.out)
          rcases e1 with ⟨hk0, e1⟩ | ⟨hk0, e1, e3⟩ | ⟨hk0, e1, e3, hc1, hl9, hcell9⟩
          all_goals
            go_wp2
            go_loopw [6, 7] (fun x i w2 => Read2 wr l k x i w2) (fun _ i _ => (intOf i + 1).toNat)
            case atStart => exact read2_start _ _ k hlt
            case round =>
              obtain ⟨rfl, j, hj, rfl, rfl⟩ := hrel
              clear e1
              cases j with
              | zero =>
                go_wp2
                go_ret3
                exact ⟨by rw [hok.out]; rfl, by repeat (first | exact Below.refl _ _ | apply bl_alloc | apply bl_drew | apply bl_drewN | (refine bl_tr' (by assumption) ?_))⟩
              | succ m =>
                have hstep := Lib.hid (read2_step l k m (by omega) hlt)
                have hbound := hor_drop_le (l.take (k + 1)) m
                rw [hstep.out] at hbound
                have h64 := hx9.out.2.2
                obtain ⟨ad2, had2, hcm⟩ := HA.out.at_ m (by omega)
                obtain rfl := Option.some.inj had2
                obtain ⟨mb0, mb1⟩ := HB.out.getD m (by omega)
                obtain ⟨cm, hcm'⟩ : ∃ x, l.getD m 0 = x := ⟨_, rfl⟩
                obtain ⟨q, hq⟩ : ∃ q, hor ((l.take (k + 1)).drop (m + 1)) 0 = q := ⟨_, rfl⟩
                obtain ⟨z, hz⟩ : ∃ z, hor (l.take (k + 1)) 0 = z := ⟨_, rfl⟩
                rw [hcm'] at hcm mb0 mb1 hbound hstep
                rw [hq] at hbound hstep ⊢
                rw [hz] at hbound h64
                have Hq := Lib.hid hq
                have Hcm := Lib.hid hcm'
                have b1 : 128 * (q : Int) + cm % 128 < 18446744073709551616 := by omega
                have b2 : 128 * (q : Int) < 18446744073709551616 := by omega
                clear hq hz hcm' hbound h64
                have i1 : (((m + 1 : Nat) : Int) - 1) = (m : Int) := by omega
                have mm : (m : Int) < (l.length : Int) := by omega
                rw [i1]
                clear i1
                go_wp2
                go_roundw
                case measure => first | (simp [intOf]; done) | (simp [intOf]; omega)
                case rel =>
                  refine ⟨rfl, m, by omega, rfl, ?_⟩
                  rw [hstep.out]
                  congr 1
                  omega
    · have p2 : ((k : Int) == (l.length : Int)) = true := by simp; omega
      have p3 : (k == l.length) = true := by simp; omega
      have hsh := Lib.hid (show vread l = .short by
        unfold vread
        rw [hpre.out, List.drop_of_length_le (by omega), vgo, pre_short])
      go_wp2
      go_ret3
      exact ⟨by rw [hsh.out]; rfl, by repeat (first | exact Below.refl _ _ | apply bl_alloc | apply bl_drew | apply bl_drewN | (refine bl_tr' (by assumption) ?_))⟩

theorem use_read {v : Value} {l : List Int} {w : World} {R : Ending → World → Prop} (h : RdS w .u8 v l) (hby : Byt l) (r : Value)
    (hv : ∀ e w', ReadPost w (vread l) e w' → e = .returned r) (k : ∀ w1, Hid (Below w.heap.size w w1) → R (.returned r) w1) : Calls Try.prog 83 #[v] w R :=
  (refRead v l w h hby).mono fun e w1 hp => by
    obtain rfl := hv e w1 hp
    exact k w1 hp.2
/-- what the reference's readers answer -/
def RefPost (w : World) (r : Int × Nat × Int) (e : Ending) (w' : World) : Prop :=
  e = .returned (.tuple #[.int .i64 r.1, .int .i64 (r.2.1 : Int), .int .i64 r.2.2]) ∧ Below w.heap.size w w'
set_option maxHeartbeats 400000 in
theorem refReadUint (v : Value) (l : List Int) (w : World) (hv : RdS w .u8 v l) (hby : Byt l) (hlen : l.length ≤ 9223372036854775807) :
    Calls Try.prog 62 #[v] w (RefPost w (uintOf l)) := by
  have H := Lib.hid hv
  have HB := Lib.hid hby
  clear hv hby
  cases hr : vread l with
  | short =>
    have HV := Lib.hid hr
    clear hr
    go_enter Try.func62, Try.ntmps62
    go_wp2_with (go_at_call 83; refine use_read H.out HB.out (.tuple #[.int .u64 0, .int .i64 0, .int .i64 2]) (by intro e w' hp; unfold ReadPost at hp; rw [HV.out] at hp; exact hp.1) ?_; intro w1 hb1)
    go_ret3
    refine ⟨?_, hb1.out⟩
    simp only [uintOf, HV.out]; rfl
  | form =>
    have HV := Lib.hid hr
    clear hr
    go_enter Try.func62, Try.ntmps62
    go_wp2_with (go_at_call 83; refine use_read H.out HB.out (.tuple #[.int .u64 0, .int .i64 0, .int .i64 3]) (by intro e w' hp; unfold ReadPost at hp; rw [HV.out] at hp; exact hp.1) ?_; intro w1 hb1)
    go_ret3
    refine ⟨?_, hb1.out⟩
    simp only [uintOf, HV.out]; rfl
  | ok x n =>
    have HV := Lib.hid hr
    obtain ⟨f1, f2, f3⟩ := vread_facts HB.out hr
    clear hr
    by_cases hx : x < 9223372036854775808
    · go_enter Try.func62, Try.ntmps62
      go_wp2_with (go_at_call 83; refine use_read H.out HB.out (.tuple #[.int .u64 x, .int .i64 n, .int .i64 0]) (by intro e w' hp; unfold ReadPost at hp; rw [HV.out] at hp; exact hp.1) ?_; intro w1 hb1)
      go_ret3
      refine ⟨?_, hb1.out⟩
      simp only [uintOf, HV.out, if_pos hx]
      exact ret_t3 (by first | rfl | (unfold wrap64; omega)) rfl rfl
    · go_enter Try.func62, Try.ntmps62
      go_wp2_with (go_at_call 83; refine use_read H.out HB.out (.tuple #[.int .u64 x, .int .i64 n, .int .i64 0]) (by intro e w' hp; unfold ReadPost at hp; rw [HV.out] at hp; exact hp.1) ?_; intro w1 hb1)
      go_ret3
      refine ⟨?_, hb1.out⟩
      simp only [uintOf, HV.out, if_neg (show ¬ x < 9223372036854775808 by omega)]
      rfl
set_option maxHeartbeats 400000 in
theorem refReadInt (v : Value) (l : List Int) (w : World) (hv : RdS w .u8 v l) (hby : Byt l) (hlen : l.length ≤ 9223372036854775807) :
    Calls Try.prog 63 #[v] w (RefPost w (sintOf l)) := by
  have H := Lib.hid hv
  have HB := Lib.hid hby
  clear hv hby
  cases hr : vread l with
  | short =>
    have HV := Lib.hid hr
    clear hr
    go_enter Try.func63, Try.ntmps63
    go_wp2_with (go_at_call 83; refine use_read H.out HB.out (.tuple #[.int .u64 0, .int .i64 0, .int .i64 2]) (by intro e w' hp; unfold ReadPost at hp; rw [HV.out] at hp; exact hp.1) ?_; intro w1 hb1)
    go_ret3
    refine ⟨?_, hb1.out⟩
    simp only [sintOf, HV.out]; rfl
  | form =>
    have HV := Lib.hid hr
    clear hr
    go_enter Try.func63, Try.ntmps63
    go_wp2_with (go_at_call 83; refine use_read H.out HB.out (.tuple #[.int .u64 0, .int .i64 0, .int .i64 3]) (by intro e w' hp; unfold ReadPost at hp; rw [HV.out] at hp; exact hp.1) ?_; intro w1 hb1)
    go_ret3
    refine ⟨?_, hb1.out⟩
    simp only [sintOf, HV.out]; rfl
  | ok x n =>
    have HV := Lib.hid hr
    obtain ⟨f1, f2, f3⟩ := vread_facts HB.out hr
    clear hr
    have hpar : (∃ m, x = 2 * m) ∨ (∃ m, x = 2 * m + 1) := by
      by_cases h : x % 2 = 0
      · exact .inl ⟨x / 2, by omega⟩
      · exact .inr ⟨x / 2, by omega⟩
    rcases hpar with ⟨m, rfl⟩ | ⟨m, rfl⟩
    · have e1 : (((2 * m : Nat) : Int) % 2 == 1) = false := by first | (simp; done) | (simp; omega)
      go_enter Try.func63, Try.ntmps63
      go_wp2_with (go_at_call 83; refine use_read H.out HB.out (.tuple #[.int .u64 (2 * m : Nat), .int .i64 n, .int .i64 0]) (by intro e w' hp; unfold ReadPost at hp; rw [HV.out] at hp; exact hp.1) ?_; intro w1 hb1)
      all_goals go_ret3
      all_goals
        refine ⟨?_, hb1.out⟩
        simp only [sintOf, HV.out, unzig]
        rw [if_pos (by omega)]
        exact ret_t3 (by omega) rfl rfl
    · have e1 : (((2 * m + 1 : Nat) : Int) % 2 == 1) = true := by first | (simp; done) | (simp; omega)
      go_enter Try.func63, Try.ntmps63
      go_wp2_with (go_at_call 83; refine use_read H.out HB.out (.tuple #[.int .u64 (2 * m + 1 : Nat), .int .i64 n, .int .i64 0]) (by intro e w' hp; unfold ReadPost at hp; rw [HV.out] at hp; exact hp.1) ?_; intro w1 hb1)
      all_goals go_ret3
      all_goals
        refine ⟨?_, hb1.out⟩
        simp only [sintOf, HV.out, unzig]
        rw [if_neg (by omega)]
        exact ret_t3 (by omega) rfl rfl
end Go.Proofs.Ytehcimecmbcdfaa
