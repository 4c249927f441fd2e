/- Contracts: the reader of bytes (octet.New, Left, Done, Bytes, varint, Uint, Int, Byte). -/
import Derived.Test.YtehcimecmbcdfaaXKeep
set_option linter.unusedSimpArgs false
set_option linter.unusedVariables false
namespace Go.Proofs.Ytehcimecmbcdfaa
open Go.RowKit

/-- A reader in block b: the bytes l, and how many have been read. -/
def Rdr (w : World) (b : Nat) (l : List Int) (pos : Nat) : Prop :=
  ∃ sv base, w.heap[b]? = some (.cells #[sv, .int .i64 pos] 87 (0, 0)) ∧ OwI w base 5 .u8 sv l ∧ pos ≤ l.length ∧ l.length ≤ 140737488355328
theorem Rdr.below {w w1 : World} {b : Nat} {l : List Int} {pos : Nat} (h : Rdr w b l pos) (hb : Below w.heap.size w w1) : Rdr w1 b l pos := by
  obtain ⟨sv, base, h1, h2, h3⟩ := h
  exact ⟨sv, base, blk_below h1 hb, h2.below hb, h3⟩
/-- another reader has been written -/
theorem Rdr.other {w w1 : World} {b g : Nat} {l l' : List Int} {pos pos' : Nat} (h : Rdr w b l pos) (hk : Kp (· = g) w w1) (hg : Rdr w g l' pos') (hne : b ≠ g) : Rdr w1 b l pos := by
  obtain ⟨sv, base, h1, h2, h3⟩ := h
  obtain ⟨sv', base', k1, -⟩ := hg
  exact ⟨sv, base, hk.blk hne h1, h2.kp hk (fun x hx e => h2.ne k1 (by decide) (by rw [hx, e])), h3⟩
theorem Rdr.lt {w : World} {b : Nat} {l : List Int} {pos : Nat} (h : Rdr w b l pos) : b < w.heap.size := by
  obtain ⟨sv, base, h1, -⟩ := h
  exact blk_lt h1

def NewPost (w : World) (l : List Int) (e : Ending) (w' : World) : Prop :=
  ∃ b, e = .returned (.pointer (some ⟨b, 0, none⟩)) ∧ w.heap.size ≤ b ∧ Rdr w' b l 0 ∧ Below w.heap.size w w'
set_option maxHeartbeats 400000 in
theorem octNew (v : Value) (l : List Int) (w : World) (hr : RdS w .u8 v l) (hl : l.length ≤ 140737488355328) :
    Calls Try.prog 32 #[v] w (NewPost w l) := by
  have HR := Lib.hid hr
  clear hr
  go_enter Try.func32, Try.ntmps32
  go_wp2_with (at_builtin; refine ap_row w.heap.size rfl (.tmp 3) (.tmp 4) 36 5 .u8 1 rfl Try.underlying36 info_u8 (by decide) (.slice (some ⟨w.heap.size, 0, none⟩) 0 0) [] v l rfl rfl (OwI.lit (k := .u8) (E := 5) [] (Nat.le_refl _) (by simp)) (HR.out.below (bl1 _)) (by simp) (by simp; omega) l.length (by simp) ?_; intro A1 c1 w1 hO1 hg1 hat1)
  go_ret
  have hb1 : Below w.heap.size w w1 := (bl1 _).grown hg1.out (by simp) (fun k hk => by simp [Value.ownBlock] at hk; omega)
  exact ⟨w1.heap.size, rfl, hb1.size, ⟨_, w.heap.size, blk_new _ _, hO1.out.below (bl1 _), Nat.zero_le _, hl⟩, bl_alloc hb1 _⟩
theorem octLeft (b : Nat) (l : List Int) (pos : Nat) (w : World) (h : Rdr w b l pos) :
    Calls Try.prog 35 #[.pointer (some ⟨b, 0, none⟩)] w fun e w' => e = .returned (.int .i64 ((l.length : Int) - (pos : Int))) ∧ Below w.heap.size w w' := by
  obtain ⟨sv, base, h1, h2, h3, h4⟩ := h
  obtain ⟨A, c, rfl, -⟩ := h2.rd
  have c0 : w.cell? ⟨b, 0, none⟩ = _ := blk_cell h1 0
  have c1 : w.cell? ⟨b, 1, none⟩ = _ := blk_cell h1 1
  have H1 := Lib.hid h1
  have H2 := Lib.hid h2
  clear h1 h2
  go_enter Try.func35, Try.ntmps35
  go_wp2
  go_quiet (fail)
  go_wp2
  go_ret
  exact ⟨rfl, by repeat (first | exact Below.refl _ _ | apply bl_alloc | apply bl_drew | apply bl_drewN | (refine bl_tr' (by assumption) ?_))⟩
theorem octLeft_nil (w : World) :
    Calls Try.prog 35 #[.pointer none] w fun e w' => e = .returned (.int .i64 0) ∧ Below w.heap.size w w' := by
  go_enter Try.func35, Try.ntmps35
  go_wp2
  go_ret
  exact ⟨rfl, by repeat (first | exact Below.refl _ _ | apply bl_alloc | apply bl_drew | apply bl_drewN | (refine bl_tr' (by assumption) ?_))⟩
theorem octDone (b : Nat) (l : List Int) (pos : Nat) (w : World) (h : Rdr w b l pos) :
    Calls Try.prog 36 #[.pointer (some ⟨b, 0, none⟩)] w fun e w' => e = .returned (.int .i64 (if pos < l.length then 5 else 0)) ∧ Below w.heap.size w w' := by
  obtain ⟨sv, base, h1, h2, h3, h4⟩ := h
  obtain ⟨A, c, rfl, -⟩ := h2.rd
  have c0 : w.cell? ⟨b, 0, none⟩ = _ := blk_cell h1 0
  have c1 : w.cell? ⟨b, 1, none⟩ = _ := blk_cell h1 1
  have H1 := Lib.hid h1
  have H2 := Lib.hid h2
  clear h1 h2
  by_cases hlt : pos < l.length
  all_goals
    go_enter Try.func36, Try.ntmps36
    go_wp2
    go_quiet (fail)
    go_wp2
    go_ret
    exact ⟨by first | rfl | (simp [hlt]; done), by repeat (first | exact Below.refl _ _ | apply bl_alloc | apply bl_drew | apply bl_drewN | (refine bl_tr' (by assumption) ?_))⟩
theorem octDone_nil (w : World) :
    Calls Try.prog 36 #[.pointer none] w fun e w' => e = .returned (.int .i64 1) ∧ Below w.heap.size w w' := by
  go_enter Try.func36, Try.ntmps36
  go_wp2
  go_ret
  exact ⟨rfl, by repeat (first | exact Below.refl _ _ | apply bl_alloc | apply bl_drew | apply bl_drewN | (refine bl_tr' (by assumption) ?_))⟩

/-! the number that stands at the head of bytes -/
inductive VR where
  | short | form | ok (x n : Nat)
def VR.step (c : Int) : VR → VR
  | .ok x n => .ok ((c % 128).toNat + 128 * x) (n + 1)
  | r => r
def VR.shift (a i : Nat) : VR → VR
  | .ok x n => .ok (a + 128 ^ i * x) (i + n)
  | r => r
def vgo : Nat → List Int → VR
  | _, [] => .short
  | i, c :: t => if i = 9 ∧ 1 < c then .form else if 128 ≤ c then (vgo (i + 1) t).step c else if c = 0 ∧ 0 < i then .form else .ok c.toNat 1
def vread (l : List Int) : VR := vgo 0 l
theorem shift_step (a i : Nat) (c : Int) (r : VR) : (r.step c).shift a i = r.shift (a + 128 ^ i * (c % 128).toNat) (i + 1) := by
  cases r with
  | short => rfl
  | form => rfl
  | ok x n =>
    simp only [VR.step, VR.shift]
    congr 1
    · rw [Nat.mul_add, Nat.pow_succ, Nat.mul_assoc]; omega
    · omega
def Byt (l : List Int) : Prop := ∀ c ∈ l, 0 ≤ c ∧ c ≤ 255
theorem Byt.getD {l : List Int} (h : Byt l) (i : Nat) (hi : i < l.length) : 0 ≤ l.getD i 0 ∧ l.getD i 0 ≤ 255 := by
  rw [List.getD_eq_getElem?_getD, List.getElem?_eq_getElem hi]
  exact h _ (List.getElem_mem hi)
theorem drop_getD {l : List Int} {i : Nat} (h : i < l.length) : l.drop i = l.getD i 0 :: l.drop (i + 1) := by
  rw [List.drop_eq_getElem_cons h, List.getD_eq_getElem?_getD, List.getElem?_eq_getElem h]; rfl
theorem and127 {c : Int} (h0 : 0 ≤ c) (h1 : c ≤ 255) : bits .and .u8 c 127 = c % 128 := bits_mask .u8 8 (by decide) wraps_u8 7 (by decide) c h0 (by omega)
theorem or_u64 (a m s : Nat) (ha : a < 2 ^ s) (hm : m * 2 ^ s < 2 ^ 64) (ha2 : a < 2 ^ 64) : bits .or .u64 (a : Int) ((m * 2 ^ s : Nat) : Int) = ((a + m * 2 ^ s : Nat) : Int) := by
  show IntKind.u64.wrap ((BitVec.ofInt 64 (a : Int) ||| BitVec.ofInt 64 ((m * 2 ^ s : Nat) : Int)).toNat : Int) = _
  rw [BitVec.ofInt_natCast, BitVec.ofInt_natCast, BitVec.toNat_or, BitVec.toNat_ofNat, BitVec.toNat_ofNat, Nat.mod_eq_of_lt ha2, Nat.mod_eq_of_lt hm, Nat.or_comm, Nat.mul_comm m, ← Nat.two_pow_add_eq_or_of_lt ha, wrap_u64]
  have h2 : 2 ^ s * m + a < 2 ^ 64 := by
    have h3 : 2 ^ s * m + a < 2 ^ s * (m + 1) := by rw [Nat.mul_add]; omega
    by_cases hs : s ≤ 64
    · have h5 : 2 ^ 64 = 2 ^ s * 2 ^ (64 - s) := by rw [← Nat.pow_add]; congr 1; omega
      have h6 : 2 ^ s * m < 2 ^ s * 2 ^ (64 - s) := by rw [← h5, Nat.mul_comm]; exact hm
      have h7 : m < 2 ^ (64 - s) := Nat.lt_of_mul_lt_mul_left h6
      have h8 : 2 ^ s * (m + 1) ≤ 2 ^ s * 2 ^ (64 - s) := Nat.mul_le_mul_left _ h7
      omega
    · have h9 : 2 ^ 64 ≤ 2 ^ s := Nat.pow_le_pow_right (by decide) (by omega)
      have h10 : m = 0 := by
        refine Nat.eq_zero_of_not_pos fun hp => ?_
        have : 1 * 2 ^ s ≤ m * 2 ^ s := Nat.mul_le_mul_right _ hp
        omega
      subst h10
      omega
  rw [Int.emod_eq_of_lt (by omega) (by omega)]
  omega
theorem var_or {a k : Nat} {c : Int} (hk : k ≤ 9) (ha : a < 128 ^ k) (h0 : 0 ≤ c) (h1 : c ≤ 255) (h9 : k = 9 → c ≤ 1) :
    bits .or .u64 (a : Int) (IntKind.u64.wrap (IntKind.u64.wrap (bits .and .u8 c 127) * 2 ^ (7 * k))) = ((a + 128 ^ k * (c % 128).toNat : Nat) : Int) := by
  rw [and127 h0 h1]
  have hp : (128:Nat) ^ k = 2 ^ (7 * k) := by rw [Nat.pow_mul]
  rw [hp] at ha ⊢
  obtain ⟨m, hm⟩ : ∃ m : Nat, (c % 128).toNat = m := ⟨_, rfl⟩
  have hcm : c % 128 = (m : Int) := by omega
  have hm128 : m < 128 := by omega
  have hlt : m * 2 ^ (7 * k) < 2 ^ 64 := by
    by_cases hk9 : k = 9
    · subst hk9
      have := h9 rfl
      have : m ≤ 1 := by omega
      have : m * 2 ^ (7 * 9) ≤ 1 * 2 ^ (7 * 9) := Nat.mul_le_mul_right _ this
      omega
    · have h2 : 2 ^ (7 * k) ≤ 2 ^ 56 := Nat.pow_le_pow_right (by decide) (by omega)
      have h3 : m * 2 ^ (7 * k) ≤ 127 * 2 ^ 56 := Nat.mul_le_mul (by omega) h2
      omega
  have hac : a < 2 ^ 64 := Nat.lt_of_lt_of_le ha (Nat.pow_le_pow_right (by decide) (by omega))
  rw [hcm, Int.toNat_natCast]
  have e1 : IntKind.u64.wrap (IntKind.u64.wrap (m : Int) * 2 ^ (7 * k)) = ((m * 2 ^ (7 * k) : Nat) : Int) := by
    rw [wrap_u64 (m : Int), Int.emod_eq_of_lt (by omega) (by omega), wrap_u64]
    have e2 : (m : Int) * 2 ^ (7 * k) = ((m * 2 ^ (7 * k) : Nat) : Int) := by push_cast; rfl
    rw [e2, Int.emod_eq_of_lt (by omega) (by omega)]
  rw [e1, or_u64 a m (7 * k) ha hlt hac, Nat.mul_comm]
theorem pow128_succ {a k m : Nat} (ha : a < 128 ^ k) (hm : m < 128) : a + 128 ^ k * m < 128 ^ (k + 1) := by
  have h1 : 128 ^ k * m + 128 ^ k ≤ 128 ^ k * 128 := by
    rw [← Nat.mul_succ]
    exact Nat.mul_le_mul_left _ hm
  rw [Nat.pow_succ]
  omega
def VarPost (w : World) (r : VR) (pos : Nat) (e : Ending) (w' : World) : Prop :=
  (match r with
    | .short => e = .returned (.tuple #[.int .u64 0, .int .i64 0, .int .i64 2])
    | .form => e = .returned (.tuple #[.int .u64 0, .int .i64 0, .int .i64 3])
    | .ok x n => e = .returned (.tuple #[.int .u64 x, .int .i64 (pos + n : Nat), .int .i64 0])) ∧ Below w.heap.size w w'
def VarRel (w : World) (l : List Int) (pos : Nat) (x i : Value) (wr : World) : Prop :=
  ∃ (k a : Nat), k ≤ 9 ∧ x = .int .u64 a ∧ i = .int .i64 k ∧ a < 128 ^ k ∧ pos + k ≤ l.length ∧ vread (l.drop pos) = (vgo k (l.drop (pos + k))).shift a k ∧ Drw w wr
set_option maxHeartbeats 1000000 in
theorem octVarint (b : Nat) (l : List Int) (pos : Nat) (w : World) (h : Rdr w b l pos) (hby : Byt l) :
    Calls Try.prog 61 #[.pointer (some ⟨b, 0, none⟩)] w (VarPost w (vread (l.drop pos)) pos) := by
  obtain ⟨sv, base, h1, h2, h3, h4⟩ := h
  obtain ⟨A, c, rfl, hc1, -, hA⟩ := h2.rd
  have c0 : w.cell? ⟨b, 0, none⟩ = _ := blk_cell h1 0
  have c1 : w.cell? ⟨b, 1, none⟩ = _ := blk_cell h1 1
  have H1 := Lib.hid h1
  have H2 := Lib.hid h2
  have HA := Lib.hid hA
  have HB := Lib.hid hby
  clear h1 h2 hA hby
  go_enter Try.func61, Try.ntmps61
  go_wp2_with fail
  go_loopw [5, 6] (fun x i wr => VarRel w l pos x i wr) (fun _ i _ => 10 - (intOf i).toNat)
  case atStart => exact ⟨0, 0, by omega, rfl, rfl, by simp, by simpa using h3, by unfold vread; cases vgo 0 (l.drop pos) <;> simp [VR.shift], Drw.refl _⟩
  case round =>
    obtain ⟨k, a, hk, rfl, rfl, ha, hpk, he, m, rfl⟩ := hrel
    have HE := Lib.hid he
    have HAA := Lib.hid ha
    clear he ha
    by_cases hlt : pos + k < l.length
    · obtain ⟨ad, rfl, hcell⟩ := HA.out.at_ (pos + k) hlt
      obtain ⟨c', hc'⟩ : ∃ x, l.getD (pos + k) 0 = x := ⟨_, rfl⟩
      have hcb := Byt.getD HB.out _ hlt
      have hd := Lib.hid (drop_getD hlt)
      rw [hc'] at hcell hcb
      have HC := Lib.hid hc'
      clear hc'
      obtain ⟨hb0, hb1⟩ := hcb
      have p0 : 0 ≤ (pos : Int) + k := by omega
      have p1 : (pos : Int) + k < (l.length : Int) := by omega
      by_cases hf : k = 9 ∧ 1 < c'
      · have e1 : ((k : Int) == 9) = true := by simp; omega
        have e2 : decide (1 < c') = true := by simp; omega
        have HF := Lib.hid hf
        clear hf
        go_wp2
        go_quiet (fail)
        go_wp2
        go_quiet (fail)
        go_wp2
        go_ret3
        refine ⟨?_, by repeat (first | exact Below.refl _ _ | apply bl_alloc | apply bl_drew | apply bl_drewN | (refine bl_tr' (by assumption) ?_))⟩
        rw [HE.out, hd.out, HC.out, vgo, if_pos HF.out]
        rfl
      · have h9 := Lib.hid (show k = 9 → c' ≤ 1 by omega)
        have hor := Lib.hid (var_or hk HAA.out hb0 hb1 h9.out)
        have HF := Lib.hid hf
        clear hf
        have e1 : ((k : Int) == 9) = false ∨ (((k : Int) == 9) = true ∧ decide (1 < c') = false) := by
          by_cases hk9 : k = 9
          · exact .inr ⟨by simp; omega, by simp; have := h9.out hk9; omega⟩
          · exact .inl (by simp; omega)
        by_cases h128 : 128 ≤ c'
        · have e3 : ((k : Int) == 9) = false := by
            have := h9.out
            simp; omega
          have hk9 : k < 9 := by have := h9.out; omega
          clear e1
          go_wp2
          go_quiet (fail)
          go_wp2
          go_quiet (fail)
          go_wp2
          go_roundw
          case measure => simp [intOf]; omega
          case rel =>
            rw [hor.out]
            refine ⟨k + 1, a + 128 ^ k * (c' % 128).toNat, by omega, rfl, by go_num, pow128_succ HAA.out (by omega), by omega, ?_, by repeat (first | exact Drw.refl _ | apply Drw.step | exact ⟨_, rfl⟩)⟩
            rw [HE.out, hd.out, HC.out, vgo, if_neg HF.out, if_pos h128, shift_step]
            rfl
        · by_cases hz : c' = 0 ∧ 0 < k
          · have e3 : (c' == 0) = true := by simp; exact hz.1
            have hk0 : 0 < k := hz.2
            have HZ := Lib.hid hz
            clear hz
            rcases e1 with e1 | ⟨e1, e2⟩
            all_goals
              go_wp2
              go_quiet (fail)
              go_wp2
              go_quiet (fail)
              go_wp2
              go_ret3
              refine ⟨?_, by repeat (first | exact Below.refl _ _ | apply bl_alloc | apply bl_drew | apply bl_drewN | (refine bl_tr' (by assumption) ?_))⟩
              rw [HE.out, hd.out, HC.out, vgo, if_neg HF.out, if_neg (by omega), if_pos HZ.out]
              rfl
          · have e3 : (c' == 0) = false ∨ ((c' == 0) = true ∧ k ≤ 0) := by
              by_cases hz0 : c' = 0
              · exact .inr ⟨by simpa using hz0, by omega⟩
              · exact .inl (by simpa using hz0)
            have HZ := Lib.hid hz
            clear hz
            rcases e1 with e1 | ⟨e1, e2⟩ <;> rcases e3 with e3 | ⟨e3, hk0⟩
            all_goals
              go_wp2
              go_quiet (fail)
              go_wp2
              go_quiet (fail)
              go_wp2
              (try go_quiet (fail))
              (try go_wp2)
              go_ret3
              refine ⟨?_, by repeat (first | exact Below.refl _ _ | apply bl_alloc | apply bl_drew | apply bl_drewN | (refine bl_tr' (by assumption) ?_))⟩
              rw [HE.out, hd.out, HC.out, vgo, if_neg HF.out, if_neg (by omega), if_neg HZ.out]
              show _ = Ending.returned (.tuple #[.int .u64 ((a + 128 ^ k * c'.toNat : Nat) : Int), .int .i64 ((pos + (k + 1) : Nat) : Int), .int .i64 0])
              refine ret_t3 (hor.out.trans ?_) (by omega) rfl
              rw [show c' % 128 = c' by omega]
    · have hk : pos + k = l.length := by omega
      have hz := Lib.hid (List.drop_of_length_le (l := l) (i := pos + k) (by omega))
      have p2 : decide ((l.length : Int) ≤ (pos : Int) + k) = true := by simp; omega
      clear hk
      go_wp2
      go_quiet (fail)
      go_wp2
      go_ret3
      refine ⟨?_, by repeat (first | exact Below.refl _ _ | apply bl_alloc | apply bl_drew | apply bl_drewN | (refine bl_tr' (by assumption) ?_))⟩
      rw [HE.out, hz.out, vgo]
      rfl
end Go.Proofs.Ytehcimecmbcdfaa
