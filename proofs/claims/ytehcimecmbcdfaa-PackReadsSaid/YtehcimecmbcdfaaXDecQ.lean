/- Contracts: the program's reader of codes: registers and instructions. -/
import Derived.Test.YtehcimecmbcdfaaXDecP
import Derived.Test.YtehcimecmbcdfaaXArgs
set_option linter.unusedSimpArgs false
set_option linter.unusedVariables false
namespace Go.Proofs.Ytehcimecmbcdfaa
open Go.RowKit

set_option maxHeartbeats 400000 in
theorem prReg (q b : Nat) (σ : Tk) (p : Int) (w : World) (h : PRd w q b σ) (h0 : 0 ≤ p) (h1 : p ≤ 9223372036854775807) :
    Calls Try.prog 74 #[.pointer (some ⟨q, 0, none⟩), .int .i64 p] w (PrPost w q b (σ.reg p)) := by
  have H := Lib.hid h
  clear h
  obtain ⟨⟨n, σ1⟩, hr⟩ : ∃ r, σ.rd uintOf = r := ⟨_, rfl⟩
  have hrg := rdu_rg σ
  have hc := fun W h => Lib.hid (prNat q b σ W h)
  rw [hr] at hrg hc
  have hreg := Lib.hid (show σ.reg p = (p - 1 - n, σ1.fail (decide (p ≤ n)) 15) by unfold Tk.reg; rw [hr])
  clear hr
  simp only at hrg
  obtain ⟨g1, g2⟩ := hrg
  go_enter Try.func74, Try.ntmps74
  go_wp2_with fail
  refine use_pr (hc _ H.out).out ?_
  intro w1 hp1 hk1
  simp only at hp1 ⊢
  go_wp2_with fail
  refine (prFail q b σ1 (decide (p ≤ n)) 15 _ hp1.out).mono fun e w2 ⟨he, hp2, hk2⟩ => ?_
  have HP2 := Lib.hid hp2
  have HK2 := Lib.hid (hk1.out.trans hk2)
  subst he
  clear hp2 hk2
  go_wp2
  go_ret
  exact ⟨by rw [hreg.out]; rfl, by rw [hreg.out]; exact HP2.out, HK2.out⟩
/-- but for the blocks of S and new ones -/
theorem Kp.cut {S : Nat → Prop} {w w' : World} (h : Kp (fun k => S k ∨ w.heap.size ≤ k) w w') : Kp S w w' :=
  ⟨h.os, h.tape, h.output, h.size, fun k hk hn => h.block k hk (fun e => by rcases e with e | e; exact hn e; omega)⟩
def PrNew (w : World) (q b k : Nat) : Prop := PrS q b k ∨ w.heap.size ≤ k
def PrIPost (w : World) (q b : Nat) (r : Ins × Tk) (e : Ending) (w' : World) : Prop := e = .returned r.1.val ∧ PRd w' q b r.2 ∧ Kp (PrS q b) w w'
theorem PRd.far {w w1 : World} {q b : Nat} {σ : Tk} {g : Nat} {cs : Array Value} {T : TypeId} {fr : Nat × Nat} (h : PRd w q b σ) (hg : w.heap[g]? = some (.cells cs T fr)) (h1 : T ≠ 5) (h2 : T ≠ 87) (h3 : T ≠ 97) (hk : Kp (· = g) w w1) : PRd w1 q b σ := by
  obtain ⟨k1, l, pos, k2, k3⟩ := h
  refine ⟨hk.blk (fun e => ?_) k1, l, pos, k2.far hg h1 h2 hk, k3⟩
  subst e
  rw [k1] at hg
  injection hg with hg
  injection hg with _ hg
  exact h3 hg.symm
theorem PRd.lt {w : World} {q b : Nat} {σ : Tk} (h : PRd w q b σ) : q < w.heap.size ∧ b < w.heap.size := by
  obtain ⟨k1, l, pos, k2, k3⟩ := h
  exact ⟨blk_lt k1, k2.lt⟩
/-- the registers so far -/
def insJ (σ : Tk) (i : Int) : Nat → Ins
  | 0 => ⟨(σ.rd byteOf).1, 0, 0, 0, 0, 0⟩
  | 1 => ⟨(σ.rd byteOf).1, (dA σ i).1, 0, 0, 0, 0⟩
  | 2 => ⟨(σ.rd byteOf).1, (dA σ i).1, (dB σ i).1, 0, 0, 0⟩
  | _ => ⟨(σ.rd byteOf).1, (dA σ i).1, (dB σ i).1, (dC σ i).1, 0, 0⟩
def tkJ (σ : Tk) (i : Int) : Nat → Tk
  | 0 => (σ.rd byteOf).2
  | 1 => (dA σ i).2
  | 2 => (dB σ i).2
  | _ => (dC σ i).2
def regJ (σ : Tk) (i : Int) (j : Nat) : Int × Tk := (tkJ σ i j).reg i
theorem insJ_yes {σ : Tk} {i : Int} {j : Nat} (hj : j < 3) (h : (j : Int) < ar (σ.rd byteOf).1) : (insJ σ i (j + 1)).cells = (insJ σ i j).cells.setIfInBounds (j + 1) (.int .i64 (regJ σ i j).1) ∧ tkJ σ i (j + 1) = (regJ σ i j).2 := by
  have : j = 0 ∨ j = 1 ∨ j = 2 := by omega
  rcases this with rfl | rfl | rfl
  · have e : dA σ i = (σ.rd byteOf).2.reg i := by unfold dA; rw [if_pos (by simpa using h)]
    simp [insJ, tkJ, regJ, e, Ins.cells]
  · have e : dB σ i = (dA σ i).2.reg i := by unfold dB; rw [if_pos (by simpa using h)]
    simp [insJ, tkJ, regJ, e, Ins.cells]
  · have e : dC σ i = (dB σ i).2.reg i := by unfold dC; rw [if_pos (by simpa using h)]
    simp [insJ, tkJ, regJ, e, Ins.cells]
theorem insJ_no {σ : Tk} {i : Int} {j : Nat} (hj : j < 3) (h : ¬ (j : Int) < ar (σ.rd byteOf).1) : (insJ σ i (j + 1)).cells = (insJ σ i j).cells ∧ tkJ σ i (j + 1) = tkJ σ i j := by
  have : j = 0 ∨ j = 1 ∨ j = 2 := by omega
  rcases this with rfl | rfl | rfl
  · have e : dA σ i = (0, (σ.rd byteOf).2) := by unfold dA; rw [if_neg (by simpa using h)]
    simp [insJ, tkJ, e, Ins.cells]
  · have e : dB σ i = (0, (dA σ i).2) := by unfold dB; rw [if_neg (by simpa using h)]
    simp [insJ, tkJ, e, Ins.cells]
  · have e : dC σ i = (0, (dB σ i).2) := by unfold dC; rw [if_neg (by simpa using h)]
    simp [insJ, tkJ, e, Ins.cells]
theorem tkJ_byt {σ : Tk} {i : Int} (h : Byt σ.t) : ∀ j, Byt (tkJ σ i j).t
  | 0 => rd_byt h
  | 1 => dA_byt h
  | 2 => dB_byt h
  | n + 3 => dC_byt h
theorem PRd.put {W : World} {q b g : Nat} {σ : Tk} {cs : Array Value} (hp : PRd W q b σ) (hg : W.heap[g]? = some (.cells cs 92 (0, 0))) (i : Nat) (v : Value) : PRd (W.setCell ⟨g, i, none⟩ v) q b σ :=
  hp.far hg (by decide) (by decide) (by decide) ((Kp.refl (· = g) W).set rfl v)
theorem blk_put {W : World} {g z : Nat} {o : Obj} (hz : W.heap[z]? = some o) (hne : z ≠ g) (i : Nat) (v : Value) : (W.setCell ⟨g, i, none⟩ v).heap[z]? = some o :=
  ((Kp.refl (· = g) W).set (p := ⟨g, i, none⟩) rfl v).blk hne hz
theorem fin6 {w W : World} {q b z : Nat} {σ : Tk} {cs : Array Value} (hp : PRd W q b σ) (hz : W.heap[z]? = some (.cells cs 92 (0, 0))) (hzw : w.heap.size ≤ z) (hk : Kp (PrNew w q b) w W) (v0 v1 v2 v3 v4 v5 : Value) :
    PRd ((((((W.setCell ⟨z, 0, none⟩ v0).setCell ⟨z, 1, none⟩ v1).setCell ⟨z, 2, none⟩ v2).setCell ⟨z, 3, none⟩ v3).setCell ⟨z, 4, none⟩ v4).setCell ⟨z, 5, none⟩ v5) q b σ ∧
    Kp (PrS q b) w ((((((W.setCell ⟨z, 0, none⟩ v0).setCell ⟨z, 1, none⟩ v1).setCell ⟨z, 2, none⟩ v2).setCell ⟨z, 3, none⟩ v3).setCell ⟨z, 4, none⟩ v4).setCell ⟨z, 5, none⟩ v5) := by
  have k := ((((((Kp.refl (· = z) W).set (p := ⟨z, 0, none⟩) rfl v0).set (p := ⟨z, 1, none⟩) rfl v1).set (p := ⟨z, 2, none⟩) rfl v2).set (p := ⟨z, 3, none⟩) rfl v3).set (p := ⟨z, 4, none⟩) rfl v4).set (p := ⟨z, 5, none⟩) rfl v5
  exact ⟨hp.far hz (by decide) (by decide) (by decide) k, (hk.trans (k.mono (fun x hx => .inr (by omega)))).cut⟩
def InRel (w : World) (q b g : Nat) (σ : Tk) (i : Int) (x : Value) (wr : World) : Prop :=
  ∃ j : Nat, j ≤ 3 ∧ x = .int .i64 j ∧ wr.heap[g]? = some (.cells (insJ σ i j).cells 92 (0, 0)) ∧ wr.heap[w.heap.size]? = some (.cells zIns.cells 92 (0, 0)) ∧ PRd wr q b (tkJ σ i j) ∧ Kp (PrNew w q b) w wr
theorem args_count (op : Int) : (Ins.args ⟨op, 0, 0, 0, 0, 0⟩).length = (ar op).toNat := by
  unfold Ins.args
  rw [List.length_take]
  have := ar_le op
  simp only [List.length_cons, List.length_nil]
  omega
set_option maxRecDepth 20000 in
set_option maxHeartbeats 8000000 in
theorem prInst (q b : Nat) (σ : Tk) (i : Int) (w : World) (h : PRd w q b σ) (h0 : 0 ≤ i) (h1 : i ≤ 9223372036854775807) :
    Calls Try.prog 73 #[.pointer (some ⟨q, 0, none⟩), .int .i64 i] w (PrIPost w q b (decI σ i)) := by
  have H := Lib.hid h
  have hlt := Lib.hid h.lt
  have HBY := Lib.hid h.byt
  clear h
  obtain ⟨⟨op, σ1⟩, hr⟩ : ∃ r, σ.rd byteOf = r := ⟨_, rfl⟩
  have hrg := rdb_rg HBY.out
  have hc := fun W h => Lib.hid (prByte q b σ W h)
  have hI0 : Hid (insJ σ i 0 = ⟨op, 0, 0, 0, 0, 0⟩) := Lib.hid (by simp only [insJ, hr])
  have hT0 : Hid (tkJ σ i 0 = σ1) := Lib.hid (by simp only [tkJ, hr])
  rw [hr] at hrg hc
  have HR := Lib.hid hr
  clear hr
  simp only at hrg
  obtain ⟨g1, g2⟩ := hrg
  go_enter Try.func73, Try.ntmps73
  go_wp2_with fail
  refine use_pr (hc _ (H.out.below (bl1 _))).out ?_
  intro w1 hp1 hk1
  simp only at hp1 ⊢
  have HZ1 : Hid (w1.heap[w.heap.size]? = some (.cells zIns.cells 92 (0, 0))) := hk1.out.blk (fun e => by rcases e with e | e <;> (have := hlt.out; omega)) (blk_new w _)
  have hsz1 : w.heap.size < w1.heap.size := by have := hk1.out.size; simp at this; omega
  have HK1 : Hid (Kp (PrNew w q b) w w1) := (Kp.of_below (bl1 _)).trans (hk1.out.mono (fun k hk => .inl hk))
  clear hk1
  go_wp2_with fail
  refine use_own (args_any ⟨op, 0, 0, 0, 0, 0⟩ _) ?_
  intro va w2 hb2 hva
  have HG2 : Hid (w2.heap[w1.heap.size]? = some (.cells (insJ σ i 0).cells 92 (0, 0))) := Lib.hid (by rw [hI0.out]; exact blk_below (blk_new w1 _) hb2.out)
  have HZ2 := Lib.hid (blk_below (blk_below HZ1.out (bl1 _)) hb2.out)
  have HP2 := Lib.hid ((hp1.out.below (bl1 _)).below hb2.out)
  have HK2 : Hid (Kp (PrNew w q b) w w2) := HK1.out.trans (Kp.of_below (bl_tr (bl1 _) hb2.out))
  obtain ⟨Aa, L, ca, hL, rfl⟩ : ∃ A L c, Hid (L = (ar op).toNat) ∧ va = .slice A L c := by obtain ⟨A, c, h⟩ := hva.out.form; exact ⟨A, _, c, args_count op, h⟩
  obtain ⟨g, hg⟩ : ∃ g, w1.heap.size = g := ⟨_, rfl⟩
  have hgw : w.heap.size < g := by rw [← hg]; exact hsz1
  rw [hg] at HG2
  rw [hg]
  clear hva hb2 HZ1 hp1
  have i0 : ∀ W : World, (Instr.index 110 (.agg #[.pointer (some ⟨g, 1, none⟩), .pointer (some ⟨g, 2, none⟩), .pointer (some ⟨g, 3, none⟩)]) (.int .i64 0)).run Try.prog W = .ok (.pointer (some ⟨g, 1, none⟩)) W := fun W => by kernel_rfl
  have i1 : ∀ W : World, (Instr.index 110 (.agg #[.pointer (some ⟨g, 1, none⟩), .pointer (some ⟨g, 2, none⟩), .pointer (some ⟨g, 3, none⟩)]) (.int .i64 1)).run Try.prog W = .ok (.pointer (some ⟨g, 2, none⟩)) W := fun W => by kernel_rfl
  have i2 : ∀ W : World, (Instr.index 110 (.agg #[.pointer (some ⟨g, 1, none⟩), .pointer (some ⟨g, 2, none⟩), .pointer (some ⟨g, 3, none⟩)]) (.int .i64 2)).run Try.prog W = .ok (.pointer (some ⟨g, 3, none⟩)) W := fun W => by kernel_rfl
  go_wp2_with fail
  go_loopw [7, 8, 18] (fun _ _ x wr => InRel w q b g σ i x wr) (fun _ _ x _ => 3 - (intOf x).toNat)
  case atStart => exact ⟨0, by omega, rfl, HG2.out, HZ2.out, by rw [hT0.out]; exact HP2.out, HK2.out⟩
  case round =>
    obtain ⟨j, hj, rfl, hg', hz', hp', hk'⟩ := hrel
    have HG := Lib.hid hg'
    have HZ := Lib.hid hz'
    have HP := Lib.hid hp'
    have HK := Lib.hid hk'
    clear hg' hz' hp' hk' HG2 HZ2 HP2 HK2
    have hL' := hL.out
    have HRO : Hid ((σ.rd byteOf).1 = op) := Lib.hid (by rw [HR.out])
    have hj4 : j = 0 ∨ j = 1 ∨ j = 2 ∨ j = 3 := by omega
    rcases hj4 with rfl | rfl | rfl | rfl
    · by_cases hlj : (0 : Int) < ar op
      · have hl2 : 0 < L := by omega
        obtain ⟨⟨x, σ2⟩, hx⟩ : ∃ r, regJ σ i 0 = r := ⟨_, rfl⟩
        have hreg := fun W h => Lib.hid (prReg q b (tkJ σ i 0) i W h h0 h1)
        have hys := Lib.hid (insJ_yes (σ := σ) (i := i) (j := 0) (by omega) (by rw [HRO.out]; exact hlj))
        rw [hx] at hys
        simp only [show (tkJ σ i 0).reg i = (x, σ2) from hx] at hreg
        clear hL' hx
        go_wp2_with fail
        refine use_pr (hreg _ HP.out).out ?_
        intro w3 hp3 hk3
        simp only at hp3 ⊢
        have HG3 : Hid (w3.heap[g]? = some (.cells (insJ σ i 0).cells 92 (0, 0))) := hk3.out.blk (fun e => by rcases e with e | e <;> (have := hlt.out; omega)) HG.out
        have HZ3 : Hid (w3.heap[w.heap.size]? = some (.cells zIns.cells 92 (0, 0))) := hk3.out.blk (fun e => by rcases e with e | e <;> (have := hlt.out; omega)) HZ.out
        have HK3 : Hid (Kp (PrNew w q b) w w3) := HK.out.trans (hk3.out.mono (fun k hk => .inl hk))
        have c1 : w3.cell? ⟨g, 1, none⟩ = some (.int .i64 0) := blk_cell HG3.out 1
        have z1 := blk_frozen HG3.out 1
        clear hk3
        go_wp2
        go_roundw
        case measure => simp [intOf]
        case rel =>
          refine ⟨1, by omega, by go_num, ?_, blk_put HZ3.out (by omega) _ _, ?_, HK3.out.set (.inr (by simp; omega)) _⟩
          · rw [hys.out.1]; exact blk_set HG3.out 1 _
          · rw [hys.out.2]; exact hp3.out.put HG3.out _ _
      · have hl2 : L ≤ 0 := by omega
        have hno := Lib.hid (insJ_no (σ := σ) (i := i) (j := 0) (by omega) (by rw [HRO.out]; exact hlj))
        clear hL'
        go_wp2
        go_roundw
        case measure => simp [intOf]
        case rel => exact ⟨1, by omega, by go_num, by rw [hno.out.1]; exact HG.out, HZ.out, by rw [hno.out.2]; exact HP.out, HK.out⟩
    · by_cases hlj : (1 : Int) < ar op
      · have hl2 : 1 < L := by omega
        obtain ⟨⟨x, σ2⟩, hx⟩ : ∃ r, regJ σ i 1 = r := ⟨_, rfl⟩
        have hreg := fun W h => Lib.hid (prReg q b (tkJ σ i 1) i W h h0 h1)
        have hys := Lib.hid (insJ_yes (σ := σ) (i := i) (j := 1) (by omega) (by rw [HRO.out]; exact hlj))
        rw [hx] at hys
        simp only [show (tkJ σ i 1).reg i = (x, σ2) from hx] at hreg
        clear hL' hx
        go_wp2_with fail
        refine use_pr (hreg _ HP.out).out ?_
        intro w3 hp3 hk3
        simp only at hp3 ⊢
        have HG3 : Hid (w3.heap[g]? = some (.cells (insJ σ i 1).cells 92 (0, 0))) := hk3.out.blk (fun e => by rcases e with e | e <;> (have := hlt.out; omega)) HG.out
        have HZ3 : Hid (w3.heap[w.heap.size]? = some (.cells zIns.cells 92 (0, 0))) := hk3.out.blk (fun e => by rcases e with e | e <;> (have := hlt.out; omega)) HZ.out
        have HK3 : Hid (Kp (PrNew w q b) w w3) := HK.out.trans (hk3.out.mono (fun k hk => .inl hk))
        have c1 : w3.cell? ⟨g, 2, none⟩ = some (.int .i64 0) := blk_cell HG3.out 2
        have z1 := blk_frozen HG3.out 2
        clear hk3
        go_wp2
        go_roundw
        case measure => simp [intOf]
        case rel =>
          refine ⟨2, by omega, by go_num, ?_, blk_put HZ3.out (by omega) _ _, ?_, HK3.out.set (.inr (by simp; omega)) _⟩
          · rw [hys.out.1]; exact blk_set HG3.out 2 _
          · rw [hys.out.2]; exact hp3.out.put HG3.out _ _
      · have hl2 : L ≤ 1 := by omega
        have hno := Lib.hid (insJ_no (σ := σ) (i := i) (j := 1) (by omega) (by rw [HRO.out]; exact hlj))
        clear hL'
        go_wp2
        go_roundw
        case measure => simp [intOf]
        case rel => exact ⟨2, by omega, by go_num, by rw [hno.out.1]; exact HG.out, HZ.out, by rw [hno.out.2]; exact HP.out, HK.out⟩
    · by_cases hlj : (2 : Int) < ar op
      · have hl2 : 2 < L := by omega
        obtain ⟨⟨x, σ2⟩, hx⟩ : ∃ r, regJ σ i 2 = r := ⟨_, rfl⟩
        have hreg := fun W h => Lib.hid (prReg q b (tkJ σ i 2) i W h h0 h1)
        have hys := Lib.hid (insJ_yes (σ := σ) (i := i) (j := 2) (by omega) (by rw [HRO.out]; exact hlj))
        rw [hx] at hys
        simp only [show (tkJ σ i 2).reg i = (x, σ2) from hx] at hreg
        clear hL' hx
        go_wp2_with fail
        refine use_pr (hreg _ HP.out).out ?_
        intro w3 hp3 hk3
        simp only at hp3 ⊢
        have HG3 : Hid (w3.heap[g]? = some (.cells (insJ σ i 2).cells 92 (0, 0))) := hk3.out.blk (fun e => by rcases e with e | e <;> (have := hlt.out; omega)) HG.out
        have HZ3 : Hid (w3.heap[w.heap.size]? = some (.cells zIns.cells 92 (0, 0))) := hk3.out.blk (fun e => by rcases e with e | e <;> (have := hlt.out; omega)) HZ.out
        have HK3 : Hid (Kp (PrNew w q b) w w3) := HK.out.trans (hk3.out.mono (fun k hk => .inl hk))
        have c1 : w3.cell? ⟨g, 3, none⟩ = some (.int .i64 0) := blk_cell HG3.out 3
        have z1 := blk_frozen HG3.out 3
        clear hk3
        go_wp2
        go_roundw
        case measure => simp [intOf]
        case rel =>
          refine ⟨3, by omega, by go_num, ?_, blk_put HZ3.out (by omega) _ _, ?_, HK3.out.set (.inr (by simp; omega)) _⟩
          · rw [hys.out.1]; exact blk_set HG3.out 3 _
          · rw [hys.out.2]; exact hp3.out.put HG3.out _ _
      · have hl2 : L ≤ 2 := by omega
        have hno := Lib.hid (insJ_no (σ := σ) (i := i) (j := 2) (by omega) (by rw [HRO.out]; exact hlj))
        clear hL'
        go_wp2
        go_roundw
        case measure => simp [intOf]
        case rel => exact ⟨3, by omega, by go_num, by rw [hno.out.1]; exact HG.out, HZ.out, by rw [hno.out.2]; exact HP.out, HK.out⟩
    · obtain ⟨a3, ha3⟩ : ∃ x, (dA σ i).1 = x := ⟨_, rfl⟩
      obtain ⟨b3, hb3⟩ : ∃ x, (dB σ i).1 = x := ⟨_, rfl⟩
      obtain ⟨c3, hc3⟩ : ∃ x, (dC σ i).1 = x := ⟨_, rfl⟩
      obtain ⟨τ, hτ⟩ : ∃ x, (dC σ i).2 = x := ⟨_, rfl⟩
      have HG4 : Hid (wr.heap[g]? = some (.cells #[.int .i64 op, .int .i64 a3, .int .i64 b3, .int .i64 c3, .int .i64 0, .int .i64 0] 92 (0, 0))) := Lib.hid (by have := HG.out; simp only [insJ, HRO.out, ha3, hb3, hc3] at this; exact this)
      have HP4 : Hid (PRd wr q b τ) := Lib.hid (by have := HP.out; simp only [tkJ, hτ] at this; exact this)
      have HD : Hid (decI σ i = (⟨op, a3, b3, c3, (dK σ i).1, (dS σ i).1⟩, (dS σ i).2)) := Lib.hid (by unfold decI; rw [HRO.out, ha3, hb3, hc3])
      have HDK : Hid (dK σ i = if howN op = 1 then τ.rd sintOf else if howN op = 2 then τ.rd byteOf else if howN op = 3 ∨ howN op = 4 then τ.rd uintOf else (0, τ)) := Lib.hid (by unfold dK; rw [HRO.out, hτ])
      have HDS : Hid (dS σ i = if howN op = 4 then (dK σ i).2.rd byteOf else (0, (dK σ i).2)) := Lib.hid (by unfold dS; rw [HRO.out])
      have c0 : wr.cell? ⟨g, 0, none⟩ = some (.int .i64 op) := blk_cell HG4.out 0
      clear ha3 hb3 hc3 hτ HG HP hL'
      by_cases g1 : op = 1 ∨ op = 32
      · have hh : howN op = 1 := by unfold howN; first | rw [if_pos (by omega)] | rw [if_neg (by omega), if_pos (by omega)] | rw [if_neg (by omega), if_neg (by omega), if_pos (by omega)] | rw [if_neg (by omega), if_neg (by omega), if_neg (by omega), if_pos (by omega)]
        have hk0 : dK σ i = τ.rd sintOf := by rw [HDK.out, hh]; rfl
        have hs0 : dS σ i = (0, (τ.rd sintOf).2) := by rw [HDS.out, hh, hk0]; rfl
        obtain ⟨⟨x, σ5⟩, hx⟩ : ∃ r, τ.rd sintOf = r := ⟨_, rfl⟩
        rw [hx] at hk0 hs0
        have hcl := fun W h => Lib.hid (prNum q b τ W h)
        simp only [hx] at hcl
        have HDD : Hid (((⟨op, a3, b3, c3, (dK σ i).1, (dS σ i).1⟩, (dS σ i).2) : Ins × Tk) = (⟨op, a3, b3, c3, x, 0⟩, σ5)) := Lib.hid (by rw [hs0, hk0])
        clear hx hk0 hs0 hh
        rcases g1 with rfl | rfl
        · skip
          go_wp2_with fail
          refine use_pr (hcl _ HP4.out).out ?_
          intro w5 hp5 hk5
          simp only at hp5 ⊢
          have HG5 : Hid (w5.heap[g]? = some (.cells #[.int .i64 1, .int .i64 a3, .int .i64 b3, .int .i64 c3, .int .i64 0, .int .i64 0] 92 (0, 0))) := hk5.out.blk (fun e => by rcases e with e | e <;> (have := hlt.out; omega)) HG4.out
          have HZ5 : Hid (w5.heap[w.heap.size]? = some (.cells zIns.cells 92 (0, 0))) := hk5.out.blk (fun e => by rcases e with e | e <;> (have := hlt.out; omega)) HZ.out
          have HK5 : Hid (Kp (PrNew w q b) w w5) := HK.out.trans (hk5.out.mono (fun k hk => .inl hk))
          clear hk5 c0
          have cc0 : w5.cell? ⟨g, 0, none⟩ = some (.int .i64 1) := blk_cell HG5.out 0
          have cc1 : w5.cell? ⟨g, 1, none⟩ = some (.int .i64 a3) := blk_cell HG5.out 1
          have cc2 : w5.cell? ⟨g, 2, none⟩ = some (.int .i64 b3) := blk_cell HG5.out 2
          have cc3 : w5.cell? ⟨g, 3, none⟩ = some (.int .i64 c3) := blk_cell HG5.out 3
          have cc4 : w5.cell? ⟨g, 4, none⟩ = some (.int .i64 0) := blk_cell HG5.out 4
          have cc5 : w5.cell? ⟨g, 5, none⟩ = some (.int .i64 0) := blk_cell HG5.out 5
          have zc4 : w5.frozen? ⟨g, 4, none⟩ = false := blk_frozen HG5.out 4
          have t0 : w5.cell? ⟨w.heap.size, 0, none⟩ = some (.int .i64 0) := blk_cell HZ5.out 0
          have t1 : w5.cell? ⟨w.heap.size, 1, none⟩ = some (.int .i64 0) := blk_cell HZ5.out 1
          have t2 : w5.cell? ⟨w.heap.size, 2, none⟩ = some (.int .i64 0) := blk_cell HZ5.out 2
          have t3 : w5.cell? ⟨w.heap.size, 3, none⟩ = some (.int .i64 0) := blk_cell HZ5.out 3
          have t4 : w5.cell? ⟨w.heap.size, 4, none⟩ = some (.int .i64 0) := blk_cell HZ5.out 4
          have t5 : w5.cell? ⟨w.heap.size, 5, none⟩ = some (.int .i64 0) := blk_cell HZ5.out 5
          have z0 : w5.frozen? ⟨w.heap.size, 0, none⟩ = false := blk_frozen HZ5.out 0
          have z1 : w5.frozen? ⟨w.heap.size, 1, none⟩ = false := blk_frozen HZ5.out 1
          have z2 : w5.frozen? ⟨w.heap.size, 2, none⟩ = false := blk_frozen HZ5.out 2
          have z3 : w5.frozen? ⟨w.heap.size, 3, none⟩ = false := blk_frozen HZ5.out 3
          have z4 : w5.frozen? ⟨w.heap.size, 4, none⟩ = false := blk_frozen HZ5.out 4
          have z5 : w5.frozen? ⟨w.heap.size, 5, none⟩ = false := blk_frozen HZ5.out 5
          go_wp2
          have hf := fin6 (w := w) (z := w.heap.size) (hp5.out.put HG5.out 4 (.int .i64 x)) (blk_put HZ5.out (by omega) 4 (.int .i64 x)) (Nat.le_refl _) (HK5.out.set (p := ⟨g, 4, none⟩) (.inr (by simp; omega)) (.int .i64 x)) (.int .i64 1) (.int .i64 a3) (.int .i64 b3) (.int .i64 c3) (.int .i64 x) (.int .i64 0)
          refine bodyPost_ret (v := .agg #[.int .i64 1, .int .i64 a3, .int .i64 b3, .int .i64 c3, .int .i64 x, .int .i64 0]) (by simp [results, Try.results73, go_sem, t0, t1, t2, t3, t4, t5]) rfl ⟨?_, ?_, hf.2⟩
          · rw [HD.out, HDD.out]; rfl
          · rw [HD.out, HDD.out]; exact hf.1
        · skip
          go_wp2_with fail
          refine use_pr (hcl _ HP4.out).out ?_
          intro w5 hp5 hk5
          simp only at hp5 ⊢
          have HG5 : Hid (w5.heap[g]? = some (.cells #[.int .i64 32, .int .i64 a3, .int .i64 b3, .int .i64 c3, .int .i64 0, .int .i64 0] 92 (0, 0))) := hk5.out.blk (fun e => by rcases e with e | e <;> (have := hlt.out; omega)) HG4.out
          have HZ5 : Hid (w5.heap[w.heap.size]? = some (.cells zIns.cells 92 (0, 0))) := hk5.out.blk (fun e => by rcases e with e | e <;> (have := hlt.out; omega)) HZ.out
          have HK5 : Hid (Kp (PrNew w q b) w w5) := HK.out.trans (hk5.out.mono (fun k hk => .inl hk))
          clear hk5 c0
          have cc0 : w5.cell? ⟨g, 0, none⟩ = some (.int .i64 32) := blk_cell HG5.out 0
          have cc1 : w5.cell? ⟨g, 1, none⟩ = some (.int .i64 a3) := blk_cell HG5.out 1
          have cc2 : w5.cell? ⟨g, 2, none⟩ = some (.int .i64 b3) := blk_cell HG5.out 2
          have cc3 : w5.cell? ⟨g, 3, none⟩ = some (.int .i64 c3) := blk_cell HG5.out 3
          have cc4 : w5.cell? ⟨g, 4, none⟩ = some (.int .i64 0) := blk_cell HG5.out 4
          have cc5 : w5.cell? ⟨g, 5, none⟩ = some (.int .i64 0) := blk_cell HG5.out 5
          have zc4 : w5.frozen? ⟨g, 4, none⟩ = false := blk_frozen HG5.out 4
          have t0 : w5.cell? ⟨w.heap.size, 0, none⟩ = some (.int .i64 0) := blk_cell HZ5.out 0
          have t1 : w5.cell? ⟨w.heap.size, 1, none⟩ = some (.int .i64 0) := blk_cell HZ5.out 1
          have t2 : w5.cell? ⟨w.heap.size, 2, none⟩ = some (.int .i64 0) := blk_cell HZ5.out 2
          have t3 : w5.cell? ⟨w.heap.size, 3, none⟩ = some (.int .i64 0) := blk_cell HZ5.out 3
          have t4 : w5.cell? ⟨w.heap.size, 4, none⟩ = some (.int .i64 0) := blk_cell HZ5.out 4
          have t5 : w5.cell? ⟨w.heap.size, 5, none⟩ = some (.int .i64 0) := blk_cell HZ5.out 5
          have z0 : w5.frozen? ⟨w.heap.size, 0, none⟩ = false := blk_frozen HZ5.out 0
          have z1 : w5.frozen? ⟨w.heap.size, 1, none⟩ = false := blk_frozen HZ5.out 1
          have z2 : w5.frozen? ⟨w.heap.size, 2, none⟩ = false := blk_frozen HZ5.out 2
          have z3 : w5.frozen? ⟨w.heap.size, 3, none⟩ = false := blk_frozen HZ5.out 3
          have z4 : w5.frozen? ⟨w.heap.size, 4, none⟩ = false := blk_frozen HZ5.out 4
          have z5 : w5.frozen? ⟨w.heap.size, 5, none⟩ = false := blk_frozen HZ5.out 5
          go_wp2
          have hf := fin6 (w := w) (z := w.heap.size) (hp5.out.put HG5.out 4 (.int .i64 x)) (blk_put HZ5.out (by omega) 4 (.int .i64 x)) (Nat.le_refl _) (HK5.out.set (p := ⟨g, 4, none⟩) (.inr (by simp; omega)) (.int .i64 x)) (.int .i64 32) (.int .i64 a3) (.int .i64 b3) (.int .i64 c3) (.int .i64 x) (.int .i64 0)
          refine bodyPost_ret (v := .agg #[.int .i64 32, .int .i64 a3, .int .i64 b3, .int .i64 c3, .int .i64 x, .int .i64 0]) (by simp [results, Try.results73, go_sem, t0, t1, t2, t3, t4, t5]) rfl ⟨?_, ?_, hf.2⟩
          · rw [HD.out, HDD.out]; rfl
          · rw [HD.out, HDD.out]; exact hf.1
      by_cases g2 : op = 2 ∨ op = 3 ∨ op = 29 ∨ op = 30
      · have hh : howN op = 2 := by unfold howN; first | rw [if_pos (by omega)] | rw [if_neg (by omega), if_pos (by omega)] | rw [if_neg (by omega), if_neg (by omega), if_pos (by omega)] | rw [if_neg (by omega), if_neg (by omega), if_neg (by omega), if_pos (by omega)]
        have hk0 : dK σ i = τ.rd byteOf := by rw [HDK.out, hh]; rfl
        have hs0 : dS σ i = (0, (τ.rd byteOf).2) := by rw [HDS.out, hh, hk0]; rfl
        obtain ⟨⟨x, σ5⟩, hx⟩ : ∃ r, τ.rd byteOf = r := ⟨_, rfl⟩
        rw [hx] at hk0 hs0
        have hcl := fun W h => Lib.hid (prByte q b τ W h)
        simp only [hx] at hcl
        have HDD : Hid (((⟨op, a3, b3, c3, (dK σ i).1, (dS σ i).1⟩, (dS σ i).2) : Ins × Tk) = (⟨op, a3, b3, c3, x, 0⟩, σ5)) := Lib.hid (by rw [hs0, hk0])
        clear hx hk0 hs0 hh
        rcases g2 with rfl | rfl | rfl | rfl
        · skip
          go_wp2_with fail
          refine use_pr (hcl _ HP4.out).out ?_
          intro w5 hp5 hk5
          simp only at hp5 ⊢
          have HG5 : Hid (w5.heap[g]? = some (.cells #[.int .i64 2, .int .i64 a3, .int .i64 b3, .int .i64 c3, .int .i64 0, .int .i64 0] 92 (0, 0))) := hk5.out.blk (fun e => by rcases e with e | e <;> (have := hlt.out; omega)) HG4.out
          have HZ5 : Hid (w5.heap[w.heap.size]? = some (.cells zIns.cells 92 (0, 0))) := hk5.out.blk (fun e => by rcases e with e | e <;> (have := hlt.out; omega)) HZ.out
          have HK5 : Hid (Kp (PrNew w q b) w w5) := HK.out.trans (hk5.out.mono (fun k hk => .inl hk))
          clear hk5 c0
          have cc0 : w5.cell? ⟨g, 0, none⟩ = some (.int .i64 2) := blk_cell HG5.out 0
          have cc1 : w5.cell? ⟨g, 1, none⟩ = some (.int .i64 a3) := blk_cell HG5.out 1
          have cc2 : w5.cell? ⟨g, 2, none⟩ = some (.int .i64 b3) := blk_cell HG5.out 2
          have cc3 : w5.cell? ⟨g, 3, none⟩ = some (.int .i64 c3) := blk_cell HG5.out 3
          have cc4 : w5.cell? ⟨g, 4, none⟩ = some (.int .i64 0) := blk_cell HG5.out 4
          have cc5 : w5.cell? ⟨g, 5, none⟩ = some (.int .i64 0) := blk_cell HG5.out 5
          have zc4 : w5.frozen? ⟨g, 4, none⟩ = false := blk_frozen HG5.out 4
          have t0 : w5.cell? ⟨w.heap.size, 0, none⟩ = some (.int .i64 0) := blk_cell HZ5.out 0
          have t1 : w5.cell? ⟨w.heap.size, 1, none⟩ = some (.int .i64 0) := blk_cell HZ5.out 1
          have t2 : w5.cell? ⟨w.heap.size, 2, none⟩ = some (.int .i64 0) := blk_cell HZ5.out 2
          have t3 : w5.cell? ⟨w.heap.size, 3, none⟩ = some (.int .i64 0) := blk_cell HZ5.out 3
          have t4 : w5.cell? ⟨w.heap.size, 4, none⟩ = some (.int .i64 0) := blk_cell HZ5.out 4
          have t5 : w5.cell? ⟨w.heap.size, 5, none⟩ = some (.int .i64 0) := blk_cell HZ5.out 5
          have z0 : w5.frozen? ⟨w.heap.size, 0, none⟩ = false := blk_frozen HZ5.out 0
          have z1 : w5.frozen? ⟨w.heap.size, 1, none⟩ = false := blk_frozen HZ5.out 1
          have z2 : w5.frozen? ⟨w.heap.size, 2, none⟩ = false := blk_frozen HZ5.out 2
          have z3 : w5.frozen? ⟨w.heap.size, 3, none⟩ = false := blk_frozen HZ5.out 3
          have z4 : w5.frozen? ⟨w.heap.size, 4, none⟩ = false := blk_frozen HZ5.out 4
          have z5 : w5.frozen? ⟨w.heap.size, 5, none⟩ = false := blk_frozen HZ5.out 5
          go_wp2
          have hf := fin6 (w := w) (z := w.heap.size) (hp5.out.put HG5.out 4 (.int .i64 x)) (blk_put HZ5.out (by omega) 4 (.int .i64 x)) (Nat.le_refl _) (HK5.out.set (p := ⟨g, 4, none⟩) (.inr (by simp; omega)) (.int .i64 x)) (.int .i64 2) (.int .i64 a3) (.int .i64 b3) (.int .i64 c3) (.int .i64 x) (.int .i64 0)
          refine bodyPost_ret (v := .agg #[.int .i64 2, .int .i64 a3, .int .i64 b3, .int .i64 c3, .int .i64 x, .int .i64 0]) (by simp [results, Try.results73, go_sem, t0, t1, t2, t3, t4, t5]) rfl ⟨?_, ?_, hf.2⟩
          · rw [HD.out, HDD.out]; rfl
          · rw [HD.out, HDD.out]; exact hf.1
        · skip
          go_wp2_with fail
          refine use_pr (hcl _ HP4.out).out ?_
          intro w5 hp5 hk5
          simp only at hp5 ⊢
          have HG5 : Hid (w5.heap[g]? = some (.cells #[.int .i64 3, .int .i64 a3, .int .i64 b3, .int .i64 c3, .int .i64 0, .int .i64 0] 92 (0, 0))) := hk5.out.blk (fun e => by rcases e with e | e <;> (have := hlt.out; omega)) HG4.out
          have HZ5 : Hid (w5.heap[w.heap.size]? = some (.cells zIns.cells 92 (0, 0))) := hk5.out.blk (fun e => by rcases e with e | e <;> (have := hlt.out; omega)) HZ.out
          have HK5 : Hid (Kp (PrNew w q b) w w5) := HK.out.trans (hk5.out.mono (fun k hk => .inl hk))
          clear hk5 c0
          have cc0 : w5.cell? ⟨g, 0, none⟩ = some (.int .i64 3) := blk_cell HG5.out 0
          have cc1 : w5.cell? ⟨g, 1, none⟩ = some (.int .i64 a3) := blk_cell HG5.out 1
          have cc2 : w5.cell? ⟨g, 2, none⟩ = some (.int .i64 b3) := blk_cell HG5.out 2
          have cc3 : w5.cell? ⟨g, 3, none⟩ = some (.int .i64 c3) := blk_cell HG5.out 3
          have cc4 : w5.cell? ⟨g, 4, none⟩ = some (.int .i64 0) := blk_cell HG5.out 4
          have cc5 : w5.cell? ⟨g, 5, none⟩ = some (.int .i64 0) := blk_cell HG5.out 5
          have zc4 : w5.frozen? ⟨g, 4, none⟩ = false := blk_frozen HG5.out 4
          have t0 : w5.cell? ⟨w.heap.size, 0, none⟩ = some (.int .i64 0) := blk_cell HZ5.out 0
          have t1 : w5.cell? ⟨w.heap.size, 1, none⟩ = some (.int .i64 0) := blk_cell HZ5.out 1
          have t2 : w5.cell? ⟨w.heap.size, 2, none⟩ = some (.int .i64 0) := blk_cell HZ5.out 2
          have t3 : w5.cell? ⟨w.heap.size, 3, none⟩ = some (.int .i64 0) := blk_cell HZ5.out 3
          have t4 : w5.cell? ⟨w.heap.size, 4, none⟩ = some (.int .i64 0) := blk_cell HZ5.out 4
          have t5 : w5.cell? ⟨w.heap.size, 5, none⟩ = some (.int .i64 0) := blk_cell HZ5.out 5
          have z0 : w5.frozen? ⟨w.heap.size, 0, none⟩ = false := blk_frozen HZ5.out 0
          have z1 : w5.frozen? ⟨w.heap.size, 1, none⟩ = false := blk_frozen HZ5.out 1
          have z2 : w5.frozen? ⟨w.heap.size, 2, none⟩ = false := blk_frozen HZ5.out 2
          have z3 : w5.frozen? ⟨w.heap.size, 3, none⟩ = false := blk_frozen HZ5.out 3
          have z4 : w5.frozen? ⟨w.heap.size, 4, none⟩ = false := blk_frozen HZ5.out 4
          have z5 : w5.frozen? ⟨w.heap.size, 5, none⟩ = false := blk_frozen HZ5.out 5
          go_wp2
          have hf := fin6 (w := w) (z := w.heap.size) (hp5.out.put HG5.out 4 (.int .i64 x)) (blk_put HZ5.out (by omega) 4 (.int .i64 x)) (Nat.le_refl _) (HK5.out.set (p := ⟨g, 4, none⟩) (.inr (by simp; omega)) (.int .i64 x)) (.int .i64 3) (.int .i64 a3) (.int .i64 b3) (.int .i64 c3) (.int .i64 x) (.int .i64 0)
          refine bodyPost_ret (v := .agg #[.int .i64 3, .int .i64 a3, .int .i64 b3, .int .i64 c3, .int .i64 x, .int .i64 0]) (by simp [results, Try.results73, go_sem, t0, t1, t2, t3, t4, t5]) rfl ⟨?_, ?_, hf.2⟩
          · rw [HD.out, HDD.out]; rfl
          · rw [HD.out, HDD.out]; exact hf.1
        · skip
          go_wp2_with fail
          refine use_pr (hcl _ HP4.out).out ?_
          intro w5 hp5 hk5
          simp only at hp5 ⊢
          have HG5 : Hid (w5.heap[g]? = some (.cells #[.int .i64 29, .int .i64 a3, .int .i64 b3, .int .i64 c3, .int .i64 0, .int .i64 0] 92 (0, 0))) := hk5.out.blk (fun e => by rcases e with e | e <;> (have := hlt.out; omega)) HG4.out
          have HZ5 : Hid (w5.heap[w.heap.size]? = some (.cells zIns.cells 92 (0, 0))) := hk5.out.blk (fun e => by rcases e with e | e <;> (have := hlt.out; omega)) HZ.out
          have HK5 : Hid (Kp (PrNew w q b) w w5) := HK.out.trans (hk5.out.mono (fun k hk => .inl hk))
          clear hk5 c0
          have cc0 : w5.cell? ⟨g, 0, none⟩ = some (.int .i64 29) := blk_cell HG5.out 0
          have cc1 : w5.cell? ⟨g, 1, none⟩ = some (.int .i64 a3) := blk_cell HG5.out 1
          have cc2 : w5.cell? ⟨g, 2, none⟩ = some (.int .i64 b3) := blk_cell HG5.out 2
          have cc3 : w5.cell? ⟨g, 3, none⟩ = some (.int .i64 c3) := blk_cell HG5.out 3
          have cc4 : w5.cell? ⟨g, 4, none⟩ = some (.int .i64 0) := blk_cell HG5.out 4
          have cc5 : w5.cell? ⟨g, 5, none⟩ = some (.int .i64 0) := blk_cell HG5.out 5
          have zc4 : w5.frozen? ⟨g, 4, none⟩ = false := blk_frozen HG5.out 4
          have t0 : w5.cell? ⟨w.heap.size, 0, none⟩ = some (.int .i64 0) := blk_cell HZ5.out 0
          have t1 : w5.cell? ⟨w.heap.size, 1, none⟩ = some (.int .i64 0) := blk_cell HZ5.out 1
          have t2 : w5.cell? ⟨w.heap.size, 2, none⟩ = some (.int .i64 0) := blk_cell HZ5.out 2
          have t3 : w5.cell? ⟨w.heap.size, 3, none⟩ = some (.int .i64 0) := blk_cell HZ5.out 3
          have t4 : w5.cell? ⟨w.heap.size, 4, none⟩ = some (.int .i64 0) := blk_cell HZ5.out 4
          have t5 : w5.cell? ⟨w.heap.size, 5, none⟩ = some (.int .i64 0) := blk_cell HZ5.out 5
          have z0 : w5.frozen? ⟨w.heap.size, 0, none⟩ = false := blk_frozen HZ5.out 0
          have z1 : w5.frozen? ⟨w.heap.size, 1, none⟩ = false := blk_frozen HZ5.out 1
          have z2 : w5.frozen? ⟨w.heap.size, 2, none⟩ = false := blk_frozen HZ5.out 2
          have z3 : w5.frozen? ⟨w.heap.size, 3, none⟩ = false := blk_frozen HZ5.out 3
          have z4 : w5.frozen? ⟨w.heap.size, 4, none⟩ = false := blk_frozen HZ5.out 4
          have z5 : w5.frozen? ⟨w.heap.size, 5, none⟩ = false := blk_frozen HZ5.out 5
          go_wp2
          have hf := fin6 (w := w) (z := w.heap.size) (hp5.out.put HG5.out 4 (.int .i64 x)) (blk_put HZ5.out (by omega) 4 (.int .i64 x)) (Nat.le_refl _) (HK5.out.set (p := ⟨g, 4, none⟩) (.inr (by simp; omega)) (.int .i64 x)) (.int .i64 29) (.int .i64 a3) (.int .i64 b3) (.int .i64 c3) (.int .i64 x) (.int .i64 0)
          refine bodyPost_ret (v := .agg #[.int .i64 29, .int .i64 a3, .int .i64 b3, .int .i64 c3, .int .i64 x, .int .i64 0]) (by simp [results, Try.results73, go_sem, t0, t1, t2, t3, t4, t5]) rfl ⟨?_, ?_, hf.2⟩
          · rw [HD.out, HDD.out]; rfl
          · rw [HD.out, HDD.out]; exact hf.1
        · skip
          go_wp2_with fail
          refine use_pr (hcl _ HP4.out).out ?_
          intro w5 hp5 hk5
          simp only at hp5 ⊢
          have HG5 : Hid (w5.heap[g]? = some (.cells #[.int .i64 30, .int .i64 a3, .int .i64 b3, .int .i64 c3, .int .i64 0, .int .i64 0] 92 (0, 0))) := hk5.out.blk (fun e => by rcases e with e | e <;> (have := hlt.out; omega)) HG4.out
          have HZ5 : Hid (w5.heap[w.heap.size]? = some (.cells zIns.cells 92 (0, 0))) := hk5.out.blk (fun e => by rcases e with e | e <;> (have := hlt.out; omega)) HZ.out
          have HK5 : Hid (Kp (PrNew w q b) w w5) := HK.out.trans (hk5.out.mono (fun k hk => .inl hk))
          clear hk5 c0
          have cc0 : w5.cell? ⟨g, 0, none⟩ = some (.int .i64 30) := blk_cell HG5.out 0
          have cc1 : w5.cell? ⟨g, 1, none⟩ = some (.int .i64 a3) := blk_cell HG5.out 1
          have cc2 : w5.cell? ⟨g, 2, none⟩ = some (.int .i64 b3) := blk_cell HG5.out 2
          have cc3 : w5.cell? ⟨g, 3, none⟩ = some (.int .i64 c3) := blk_cell HG5.out 3
          have cc4 : w5.cell? ⟨g, 4, none⟩ = some (.int .i64 0) := blk_cell HG5.out 4
          have cc5 : w5.cell? ⟨g, 5, none⟩ = some (.int .i64 0) := blk_cell HG5.out 5
          have zc4 : w5.frozen? ⟨g, 4, none⟩ = false := blk_frozen HG5.out 4
          have t0 : w5.cell? ⟨w.heap.size, 0, none⟩ = some (.int .i64 0) := blk_cell HZ5.out 0
          have t1 : w5.cell? ⟨w.heap.size, 1, none⟩ = some (.int .i64 0) := blk_cell HZ5.out 1
          have t2 : w5.cell? ⟨w.heap.size, 2, none⟩ = some (.int .i64 0) := blk_cell HZ5.out 2
          have t3 : w5.cell? ⟨w.heap.size, 3, none⟩ = some (.int .i64 0) := blk_cell HZ5.out 3
          have t4 : w5.cell? ⟨w.heap.size, 4, none⟩ = some (.int .i64 0) := blk_cell HZ5.out 4
          have t5 : w5.cell? ⟨w.heap.size, 5, none⟩ = some (.int .i64 0) := blk_cell HZ5.out 5
          have z0 : w5.frozen? ⟨w.heap.size, 0, none⟩ = false := blk_frozen HZ5.out 0
          have z1 : w5.frozen? ⟨w.heap.size, 1, none⟩ = false := blk_frozen HZ5.out 1
          have z2 : w5.frozen? ⟨w.heap.size, 2, none⟩ = false := blk_frozen HZ5.out 2
          have z3 : w5.frozen? ⟨w.heap.size, 3, none⟩ = false := blk_frozen HZ5.out 3
          have z4 : w5.frozen? ⟨w.heap.size, 4, none⟩ = false := blk_frozen HZ5.out 4
          have z5 : w5.frozen? ⟨w.heap.size, 5, none⟩ = false := blk_frozen HZ5.out 5
          go_wp2
          have hf := fin6 (w := w) (z := w.heap.size) (hp5.out.put HG5.out 4 (.int .i64 x)) (blk_put HZ5.out (by omega) 4 (.int .i64 x)) (Nat.le_refl _) (HK5.out.set (p := ⟨g, 4, none⟩) (.inr (by simp; omega)) (.int .i64 x)) (.int .i64 30) (.int .i64 a3) (.int .i64 b3) (.int .i64 c3) (.int .i64 x) (.int .i64 0)
          refine bodyPost_ret (v := .agg #[.int .i64 30, .int .i64 a3, .int .i64 b3, .int .i64 c3, .int .i64 x, .int .i64 0]) (by simp [results, Try.results73, go_sem, t0, t1, t2, t3, t4, t5]) rfl ⟨?_, ?_, hf.2⟩
          · rw [HD.out, HDD.out]; rfl
          · rw [HD.out, HDD.out]; exact hf.1
      by_cases g31 : op = 31
      · have hh : howN op = 3 := by unfold howN; first | rw [if_pos (by omega)] | rw [if_neg (by omega), if_pos (by omega)] | rw [if_neg (by omega), if_neg (by omega), if_pos (by omega)] | rw [if_neg (by omega), if_neg (by omega), if_neg (by omega), if_pos (by omega)]
        have hk0 : dK σ i = τ.rd uintOf := by rw [HDK.out, hh]; rfl
        have hs0 : dS σ i = (0, (τ.rd uintOf).2) := by rw [HDS.out, hh, hk0]; rfl
        obtain ⟨⟨x, σ5⟩, hx⟩ : ∃ r, τ.rd uintOf = r := ⟨_, rfl⟩
        rw [hx] at hk0 hs0
        have hcl := fun W h => Lib.hid (prNat q b τ W h)
        simp only [hx] at hcl
        have HDD : Hid (((⟨op, a3, b3, c3, (dK σ i).1, (dS σ i).1⟩, (dS σ i).2) : Ins × Tk) = (⟨op, a3, b3, c3, x, 0⟩, σ5)) := Lib.hid (by rw [hs0, hk0])
        clear hx hk0 hs0 hh
        subst g31
        · skip
          go_wp2_with fail
          refine use_pr (hcl _ HP4.out).out ?_
          intro w5 hp5 hk5
          simp only at hp5 ⊢
          have HG5 : Hid (w5.heap[g]? = some (.cells #[.int .i64 31, .int .i64 a3, .int .i64 b3, .int .i64 c3, .int .i64 0, .int .i64 0] 92 (0, 0))) := hk5.out.blk (fun e => by rcases e with e | e <;> (have := hlt.out; omega)) HG4.out
          have HZ5 : Hid (w5.heap[w.heap.size]? = some (.cells zIns.cells 92 (0, 0))) := hk5.out.blk (fun e => by rcases e with e | e <;> (have := hlt.out; omega)) HZ.out
          have HK5 : Hid (Kp (PrNew w q b) w w5) := HK.out.trans (hk5.out.mono (fun k hk => .inl hk))
          clear hk5 c0
          have cc0 : w5.cell? ⟨g, 0, none⟩ = some (.int .i64 31) := blk_cell HG5.out 0
          have cc1 : w5.cell? ⟨g, 1, none⟩ = some (.int .i64 a3) := blk_cell HG5.out 1
          have cc2 : w5.cell? ⟨g, 2, none⟩ = some (.int .i64 b3) := blk_cell HG5.out 2
          have cc3 : w5.cell? ⟨g, 3, none⟩ = some (.int .i64 c3) := blk_cell HG5.out 3
          have cc4 : w5.cell? ⟨g, 4, none⟩ = some (.int .i64 0) := blk_cell HG5.out 4
          have cc5 : w5.cell? ⟨g, 5, none⟩ = some (.int .i64 0) := blk_cell HG5.out 5
          have zc4 : w5.frozen? ⟨g, 4, none⟩ = false := blk_frozen HG5.out 4
          have t0 : w5.cell? ⟨w.heap.size, 0, none⟩ = some (.int .i64 0) := blk_cell HZ5.out 0
          have t1 : w5.cell? ⟨w.heap.size, 1, none⟩ = some (.int .i64 0) := blk_cell HZ5.out 1
          have t2 : w5.cell? ⟨w.heap.size, 2, none⟩ = some (.int .i64 0) := blk_cell HZ5.out 2
          have t3 : w5.cell? ⟨w.heap.size, 3, none⟩ = some (.int .i64 0) := blk_cell HZ5.out 3
          have t4 : w5.cell? ⟨w.heap.size, 4, none⟩ = some (.int .i64 0) := blk_cell HZ5.out 4
          have t5 : w5.cell? ⟨w.heap.size, 5, none⟩ = some (.int .i64 0) := blk_cell HZ5.out 5
          have z0 : w5.frozen? ⟨w.heap.size, 0, none⟩ = false := blk_frozen HZ5.out 0
          have z1 : w5.frozen? ⟨w.heap.size, 1, none⟩ = false := blk_frozen HZ5.out 1
          have z2 : w5.frozen? ⟨w.heap.size, 2, none⟩ = false := blk_frozen HZ5.out 2
          have z3 : w5.frozen? ⟨w.heap.size, 3, none⟩ = false := blk_frozen HZ5.out 3
          have z4 : w5.frozen? ⟨w.heap.size, 4, none⟩ = false := blk_frozen HZ5.out 4
          have z5 : w5.frozen? ⟨w.heap.size, 5, none⟩ = false := blk_frozen HZ5.out 5
          go_wp2
          have hf := fin6 (w := w) (z := w.heap.size) (hp5.out.put HG5.out 4 (.int .i64 x)) (blk_put HZ5.out (by omega) 4 (.int .i64 x)) (Nat.le_refl _) (HK5.out.set (p := ⟨g, 4, none⟩) (.inr (by simp; omega)) (.int .i64 x)) (.int .i64 31) (.int .i64 a3) (.int .i64 b3) (.int .i64 c3) (.int .i64 x) (.int .i64 0)
          refine bodyPost_ret (v := .agg #[.int .i64 31, .int .i64 a3, .int .i64 b3, .int .i64 c3, .int .i64 x, .int .i64 0]) (by simp [results, Try.results73, go_sem, t0, t1, t2, t3, t4, t5]) rfl ⟨?_, ?_, hf.2⟩
          · rw [HD.out, HDD.out]; rfl
          · rw [HD.out, HDD.out]; exact hf.1
      by_cases g33 : op = 33
      · have hh : howN op = 4 := by unfold howN; rw [if_neg (by omega), if_neg (by omega), if_neg (by omega), if_pos (by omega)]
        have hk0 : dK σ i = τ.rd uintOf := by rw [HDK.out, hh]; rfl
        have hs0 : dS σ i = (τ.rd uintOf).2.rd byteOf := by rw [HDS.out, hh, hk0]; rfl
        obtain ⟨⟨x, σ5⟩, hx⟩ : ∃ r, τ.rd uintOf = r := ⟨_, rfl⟩
        rw [hx] at hk0 hs0
        simp only at hs0
        obtain ⟨⟨y, σ6⟩, hy⟩ : ∃ r, σ5.rd byteOf = r := ⟨_, rfl⟩
        rw [hy] at hs0
        have hcl := fun W h => Lib.hid (prNat q b τ W h)
        simp only [hx] at hcl
        have hcl2 := fun W h => Lib.hid (prByte q b σ5 W h)
        simp only [hy] at hcl2
        have HDD : Hid (((⟨op, a3, b3, c3, (dK σ i).1, (dS σ i).1⟩, (dS σ i).2) : Ins × Tk) = (⟨op, a3, b3, c3, x, y⟩, σ6)) := Lib.hid (by rw [hs0, hk0])
        clear hx hy hk0 hs0 hh
        subst g33
        · go_wp2_with fail
          refine use_pr (hcl _ HP4.out).out ?_
          intro w5 hp5 hk5
          simp only at hp5 ⊢
          have HG5 : Hid (w5.heap[g]? = some (.cells #[.int .i64 33, .int .i64 a3, .int .i64 b3, .int .i64 c3, .int .i64 0, .int .i64 0] 92 (0, 0))) := hk5.out.blk (fun e => by rcases e with e | e <;> (have := hlt.out; omega)) HG4.out
          have HZ5 : Hid (w5.heap[w.heap.size]? = some (.cells zIns.cells 92 (0, 0))) := hk5.out.blk (fun e => by rcases e with e | e <;> (have := hlt.out; omega)) HZ.out
          have HK5 : Hid (Kp (PrNew w q b) w w5) := HK.out.trans (hk5.out.mono (fun k hk => .inl hk))
          clear hk5 c0
          have cc4 : w5.cell? ⟨g, 4, none⟩ = some (.int .i64 0) := blk_cell HG5.out 4
          have zc4 : w5.frozen? ⟨g, 4, none⟩ = false := blk_frozen HG5.out 4
          go_wp2_with fail
          refine use_pr (hcl2 _ (hp5.out.put HG5.out 4 (.int .i64 x))).out ?_
          intro w6 hp6 hk6
          simp only at hp6 ⊢
          have HG6 : Hid (w6.heap[g]? = some (.cells #[.int .i64 33, .int .i64 a3, .int .i64 b3, .int .i64 c3, .int .i64 x, .int .i64 0] 92 (0, 0))) := hk6.out.blk (fun e => by rcases e with e | e <;> (have := hlt.out; omega)) (blk_set HG5.out 4 _)
          have HZ6 : Hid (w6.heap[w.heap.size]? = some (.cells zIns.cells 92 (0, 0))) := hk6.out.blk (fun e => by rcases e with e | e <;> (have := hlt.out; omega)) (blk_put HZ5.out (by omega) 4 _)
          have HK6 : Hid (Kp (PrNew w q b) w w6) := (HK5.out.set (p := ⟨g, 4, none⟩) (.inr (by simp; omega)) (.int .i64 x)).trans (hk6.out.mono (fun k hk => .inl hk))
          clear hk6 cc4 zc4
          have cc0 : w6.cell? ⟨g, 0, none⟩ = some (.int .i64 33) := blk_cell HG6.out 0
          have cc1 : w6.cell? ⟨g, 1, none⟩ = some (.int .i64 a3) := blk_cell HG6.out 1
          have cc2 : w6.cell? ⟨g, 2, none⟩ = some (.int .i64 b3) := blk_cell HG6.out 2
          have cc3 : w6.cell? ⟨g, 3, none⟩ = some (.int .i64 c3) := blk_cell HG6.out 3
          have cc4 : w6.cell? ⟨g, 4, none⟩ = some (.int .i64 x) := blk_cell HG6.out 4
          have cc5 : w6.cell? ⟨g, 5, none⟩ = some (.int .i64 0) := blk_cell HG6.out 5
          have zc5 : w6.frozen? ⟨g, 5, none⟩ = false := blk_frozen HG6.out 5
          have t0 : w6.cell? ⟨w.heap.size, 0, none⟩ = some (.int .i64 0) := blk_cell HZ6.out 0
          have t1 : w6.cell? ⟨w.heap.size, 1, none⟩ = some (.int .i64 0) := blk_cell HZ6.out 1
          have t2 : w6.cell? ⟨w.heap.size, 2, none⟩ = some (.int .i64 0) := blk_cell HZ6.out 2
          have t3 : w6.cell? ⟨w.heap.size, 3, none⟩ = some (.int .i64 0) := blk_cell HZ6.out 3
          have t4 : w6.cell? ⟨w.heap.size, 4, none⟩ = some (.int .i64 0) := blk_cell HZ6.out 4
          have t5 : w6.cell? ⟨w.heap.size, 5, none⟩ = some (.int .i64 0) := blk_cell HZ6.out 5
          have z0 : w6.frozen? ⟨w.heap.size, 0, none⟩ = false := blk_frozen HZ6.out 0
          have z1 : w6.frozen? ⟨w.heap.size, 1, none⟩ = false := blk_frozen HZ6.out 1
          have z2 : w6.frozen? ⟨w.heap.size, 2, none⟩ = false := blk_frozen HZ6.out 2
          have z3 : w6.frozen? ⟨w.heap.size, 3, none⟩ = false := blk_frozen HZ6.out 3
          have z4 : w6.frozen? ⟨w.heap.size, 4, none⟩ = false := blk_frozen HZ6.out 4
          have z5 : w6.frozen? ⟨w.heap.size, 5, none⟩ = false := blk_frozen HZ6.out 5
          go_wp2
          have hf := fin6 (w := w) (z := w.heap.size) (hp6.out.put HG6.out 5 (.int .i64 y)) (blk_put HZ6.out (by omega) 5 (.int .i64 y)) (Nat.le_refl _) (HK6.out.set (p := ⟨g, 5, none⟩) (.inr (by simp; omega)) (.int .i64 y)) (.int .i64 33) (.int .i64 a3) (.int .i64 b3) (.int .i64 c3) (.int .i64 x) (.int .i64 y)
          refine bodyPost_ret (v := .agg #[.int .i64 33, .int .i64 a3, .int .i64 b3, .int .i64 c3, .int .i64 x, .int .i64 y]) (by simp [results, Try.results73, go_sem, t0, t1, t2, t3, t4, t5]) rfl ⟨?_, ?_, hf.2⟩
          · rw [HD.out, HDD.out]; rfl
          · rw [HD.out, HDD.out]; exact hf.1
      have hh : howN op = 0 := by unfold howN; rw [if_neg (by omega), if_neg (by omega), if_neg (by omega), if_neg (by omega)]
      have hk0 : dK σ i = (0, τ) := by rw [HDK.out, hh]; rfl
      have hs0 : dS σ i = (0, τ) := by rw [HDS.out, hh, hk0]; rfl
      have HDD : Hid (((⟨op, a3, b3, c3, (dK σ i).1, (dS σ i).1⟩, (dS σ i).2) : Ins × Tk) = (⟨op, a3, b3, c3, 0, 0⟩, τ)) := Lib.hid (by rw [hs0, hk0])
      have b1 : (op == 1) = false := by rw [beq_eq_false_iff_ne]; omega
      have b2 : (op == 2) = false := by rw [beq_eq_false_iff_ne]; omega
      have b3' : (op == 3) = false := by rw [beq_eq_false_iff_ne]; omega
      have b29 : (op == 29) = false := by rw [beq_eq_false_iff_ne]; omega
      have b30 : (op == 30) = false := by rw [beq_eq_false_iff_ne]; omega
      have b31 : (op == 31) = false := by rw [beq_eq_false_iff_ne]; omega
      have b32 : (op == 32) = false := by rw [beq_eq_false_iff_ne]; omega
      have b33 : (op == 33) = false := by rw [beq_eq_false_iff_ne]; omega
      clear hh hk0 hs0 g1 g2 g31 g33
      have cc0 : wr.cell? ⟨g, 0, none⟩ = some (.int .i64 op) := blk_cell HG4.out 0
      have cc1 : wr.cell? ⟨g, 1, none⟩ = some (.int .i64 a3) := blk_cell HG4.out 1
      have cc2 : wr.cell? ⟨g, 2, none⟩ = some (.int .i64 b3) := blk_cell HG4.out 2
      have cc3 : wr.cell? ⟨g, 3, none⟩ = some (.int .i64 c3) := blk_cell HG4.out 3
      have cc4 : wr.cell? ⟨g, 4, none⟩ = some (.int .i64 0) := blk_cell HG4.out 4
      have cc5 : wr.cell? ⟨g, 5, none⟩ = some (.int .i64 0) := blk_cell HG4.out 5
      have t0 : wr.cell? ⟨w.heap.size, 0, none⟩ = some (.int .i64 0) := blk_cell HZ.out 0
      have t1 : wr.cell? ⟨w.heap.size, 1, none⟩ = some (.int .i64 0) := blk_cell HZ.out 1
      have t2 : wr.cell? ⟨w.heap.size, 2, none⟩ = some (.int .i64 0) := blk_cell HZ.out 2
      have t3 : wr.cell? ⟨w.heap.size, 3, none⟩ = some (.int .i64 0) := blk_cell HZ.out 3
      have t4 : wr.cell? ⟨w.heap.size, 4, none⟩ = some (.int .i64 0) := blk_cell HZ.out 4
      have t5 : wr.cell? ⟨w.heap.size, 5, none⟩ = some (.int .i64 0) := blk_cell HZ.out 5
      have z0 : wr.frozen? ⟨w.heap.size, 0, none⟩ = false := blk_frozen HZ.out 0
      have z1 : wr.frozen? ⟨w.heap.size, 1, none⟩ = false := blk_frozen HZ.out 1
      have z2 : wr.frozen? ⟨w.heap.size, 2, none⟩ = false := blk_frozen HZ.out 2
      have z3 : wr.frozen? ⟨w.heap.size, 3, none⟩ = false := blk_frozen HZ.out 3
      have z4 : wr.frozen? ⟨w.heap.size, 4, none⟩ = false := blk_frozen HZ.out 4
      have z5 : wr.frozen? ⟨w.heap.size, 5, none⟩ = false := blk_frozen HZ.out 5
      go_wp2
      have hf := fin6 (w := w) (z := w.heap.size) HP4.out HZ.out (Nat.le_refl _) HK.out (.int .i64 op) (.int .i64 a3) (.int .i64 b3) (.int .i64 c3) (.int .i64 0) (.int .i64 0)
      refine bodyPost_ret (v := .agg #[.int .i64 op, .int .i64 a3, .int .i64 b3, .int .i64 c3, .int .i64 0, .int .i64 0]) (by simp [results, Try.results73, go_sem, t0, t1, t2, t3, t4, t5]) rfl ⟨?_, ?_, hf.2⟩
      · rw [HD.out, HDD.out]; rfl
      · rw [HD.out, HDD.out]; exact hf.1
end Go.Proofs.Ytehcimecmbcdfaa
