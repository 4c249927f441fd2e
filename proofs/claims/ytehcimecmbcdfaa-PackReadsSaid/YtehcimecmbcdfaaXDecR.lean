/- Contract: the reference's code of bytes (ref19.Decode). -/
import Derived.Test.YtehcimecmbcdfaaXDecT
import Derived.Test.YtehcimecmbcdfaaXDecE
import Derived.Deep.CutRange
set_option linter.unusedSimpArgs false
set_option linter.unusedVariables false
namespace Go.Proofs.Ytehcimecmbcdfaa
open Go.RowKit

/-- the reader and the result's cell -/
structure RS (w X : World) (q : Nat) (σ : Tk) : Prop where
  tk : TkR w X q σ
  z : X.heap[w.heap.size]? = some (.cells #[.int .i64 0, .int .i64 0, .slice none 0 0, .int .i64 0] 64 (0, 0))
/-- and the code that is built -/
structure RH (w X : World) (q h : Nat) (σ : Tk) (f d : Int) (acc : List Ins) (o : Int) : Prop where
  rs : RS w X q σ
  hh : w.heap.size < h
  row : ∃ v, OwN X w.heap.size v acc ∧ X.heap[h]? = some (.cells #[.int .i64 f, .int .i64 d, v, .int .i64 o] 64 (0, 0))
/-- and the instruction that is read -/
structure RI (w X : World) (q h z : Nat) (σ : Tk) (f d : Int) (acc : List Ins) (n : Ins) : Prop where
  rs : RS w X q σ
  hh : w.heap.size < h
  hz : w.heap.size < z
  row : ∃ v, OwN X w.heap.size v acc ∧ X.heap[h]? = some (.cells #[.int .i64 f, .int .i64 d, v, .int .i64 0] 64 (0, 0)) ∧ ∀ g, v.ownBlock = some g → g ≠ z
  ins : X.heap[z]? = some (.cells n.cells 92 (0, 0))
theorem TkR.heap {w X : World} {q : Nat} {σ : Tk} (h : TkR w X q σ) : ∃ cs, X.heap[q]? = some (.cells cs 102 (0, 0)) := by
  obtain ⟨v, h1, -⟩ := h; exact ⟨_, h1⟩
theorem TkR.bl {w X : World} {q : Nat} {σ : Tk} (h : TkR w X q σ) : Below w.heap.size w X := by
  obtain ⟨v, -, -, h1, -⟩ := h; exact h1
theorem TkR.byt {w X : World} {q : Nat} {σ : Tk} (h : TkR w X q σ) : Byt σ.t := by
  obtain ⟨v, -, -, -, -, h1⟩ := h; exact h1
theorem TkR.cell {w X : World} {q : Nat} {σ : Tk} (h : TkR w X q σ) : X.cell? ⟨q, 1, none⟩ = some (.int .i64 σ.e) ∧ X.frozen? ⟨q, 1, none⟩ = false := by
  obtain ⟨v, h1, -⟩ := h; exact ⟨blk_cell h1 1, blk_frozen h1 1⟩
theorem TkR.set {w X : World} {q : Nat} {σ : Tk} (h : TkR w X q σ) (e : Int) : TkR w (X.setCell ⟨q, 1, none⟩ (.int .i64 e)) q ⟨σ.t, e⟩ := by
  obtain ⟨v, h1, h2, h3, h4, h5⟩ := h
  exact ⟨v, blk_set h1 1 _, h2, bl_kp h3 ((Kp.refl (· = q) X).set rfl _) (fun k hk => by omega), h4, h5⟩
theorem blk_ne {X : World} {a b : Nat} {cs cs' : Array Value} {T T' : TypeId} {fr fr' : Nat × Nat} (ha : X.heap[a]? = some (.cells cs T fr)) (hb : X.heap[b]? = some (.cells cs' T' fr')) (h : T ≠ T') : a ≠ b := by
  intro e; subst e; rw [ha] at hb; injection hb with hb; injection hb with _ hb; exact h hb
theorem RS.next {w X X' : World} {q : Nat} {σ σ' : Tk} (h : RS w X q σ) (ht : TkR w X' q σ') (hk : Kp (· = q) X X') : RS w X' q σ' := by
  obtain ⟨cs, hq⟩ := h.tk.heap
  exact ⟨ht, hk.blk (blk_ne h.z hq (by decide)) h.z⟩
theorem RS.set {w X : World} {q : Nat} {σ : Tk} (h : RS w X q σ) (e : Int) : RS w (X.setCell ⟨q, 1, none⟩ (.int .i64 e)) q ⟨σ.t, e⟩ :=
  h.next (h.tk.set e) ((Kp.refl (· = q) X).set rfl _)
theorem RS.far {w X X' : World} {q g : Nat} {σ : Tk} {cs : Array Value} {T : TypeId} {fr : Nat × Nat} (h : RS w X q σ) (hg : X.heap[g]? = some (.cells cs T fr)) (hT : T ≠ 102) (hgw : w.heap.size < g) (hk : Kp (· = g) X X') : RS w X' q σ := by
  obtain ⟨cs, hq⟩ := h.tk.heap
  exact ⟨h.tk.far hk (blk_ne hg hq hT) (Nat.le_of_lt hgw), hk.blk (by omega) h.z⟩
theorem RS.below {w X X' : World} {q : Nat} {σ : Tk} (h : RS w X q σ) (hb : Below X.heap.size X X') : RS w X' q σ := ⟨h.tk.below hb, blk_below h.z hb⟩
theorem own_kq {w X X' : World} {q : Nat} {cs : Array Value} {T : TypeId} {fr : Nat × Nat} {v : Value} {acc : List Ins} (hv : OwN X w.heap.size v acc) (hq : X.heap[q]? = some (.cells cs T fr)) (hT : T ≠ 92) (hk : Kp (· = q) X X') : OwN X' w.heap.size v acc :=
  hv.kp hk (fun g hg e => hv.ne hq hT (by rw [hg, e]))
theorem RH.next {w X X' : World} {q h : Nat} {σ σ' : Tk} {f d o : Int} {acc : List Ins} (r : RH w X q h σ f d acc o) (ht : TkR w X' q σ') (hk : Kp (· = q) X X') : RH w X' q h σ' f d acc o := by
  obtain ⟨cs, hq⟩ := r.rs.tk.heap
  obtain ⟨v, hv, hh⟩ := r.row
  exact ⟨r.rs.next ht hk, r.hh, v, own_kq hv hq (by decide) hk, hk.blk (blk_ne hh hq (by decide)) hh⟩
theorem RH.set {w X : World} {q h : Nat} {σ : Tk} {f d o : Int} {acc : List Ins} (r : RH w X q h σ f d acc o) (e : Int) : RH w (X.setCell ⟨q, 1, none⟩ (.int .i64 e)) q h ⟨σ.t, e⟩ f d acc o :=
  r.next (r.rs.tk.set e) ((Kp.refl (· = q) X).set rfl _)
theorem RH.below {w X X' : World} {q h : Nat} {σ : Tk} {f d o : Int} {acc : List Ins} (r : RH w X q h σ f d acc o) (hb : Below X.heap.size X X') : RH w X' q h σ f d acc o := by
  obtain ⟨v, hv, hh⟩ := r.row
  exact ⟨r.rs.below hb, r.hh, v, hv.below hb, blk_below hh hb⟩
theorem RH.cell {w X : World} {q h : Nat} {σ : Tk} {f d o : Int} {acc : List Ins} (r : RH w X q h σ f d acc o) (j : Nat) (hj : j < 2 ∨ j = 3) : X.cell? ⟨h, j, none⟩ = some (.int .i64 (if j = 0 then f else if j = 1 then d else o)) ∧ X.frozen? ⟨h, j, none⟩ = false := by
  obtain ⟨v, -, hh⟩ := r.row
  refine ⟨?_, blk_frozen hh j⟩
  have : j = 0 ∨ j = 1 ∨ j = 3 := by omega
  rcases this with rfl | rfl | rfl
  · exact blk_cell hh 0
  · exact blk_cell hh 1
  · exact blk_cell hh 3
theorem RH.put0 {w X : World} {q h : Nat} {σ : Tk} {f d o : Int} {acc : List Ins} (r : RH w X q h σ f d acc o) (y : Int) : RH w (X.setCell ⟨h, 0, none⟩ (.int .i64 y)) q h σ y d acc o := by
  obtain ⟨v, hv, hh⟩ := r.row
  have hk := (Kp.refl (· = h) X).set (p := ⟨h, 0, none⟩) rfl (.int .i64 y)
  exact ⟨r.rs.far hh (by decide) r.hh hk, r.hh, v, own_kq hv hh (by decide) hk, blk_set hh 0 _⟩
theorem RH.put1 {w X : World} {q h : Nat} {σ : Tk} {f d o : Int} {acc : List Ins} (r : RH w X q h σ f d acc o) (y : Int) : RH w (X.setCell ⟨h, 1, none⟩ (.int .i64 y)) q h σ f y acc o := by
  obtain ⟨v, hv, hh⟩ := r.row
  have hk := (Kp.refl (· = h) X).set (p := ⟨h, 1, none⟩) rfl (.int .i64 y)
  exact ⟨r.rs.far hh (by decide) r.hh hk, r.hh, v, own_kq hv hh (by decide) hk, blk_set hh 1 _⟩
theorem RH.put3 {w X : World} {q h : Nat} {σ : Tk} {f d o : Int} {acc : List Ins} (r : RH w X q h σ f d acc o) (y : Int) : RH w (X.setCell ⟨h, 3, none⟩ (.int .i64 y)) q h σ f d acc y := by
  obtain ⟨v, hv, hh⟩ := r.row
  have hk := (Kp.refl (· = h) X).set (p := ⟨h, 3, none⟩) rfl (.int .i64 y)
  exact ⟨r.rs.far hh (by decide) r.hh hk, r.hh, v, own_kq hv hh (by decide) hk, blk_set hh 3 _⟩
theorem RI.next {w X X' : World} {q h z : Nat} {σ σ' : Tk} {f d : Int} {acc : List Ins} {n : Ins} (r : RI w X q h z σ f d acc n) (ht : TkR w X' q σ') (hk : Kp (· = q) X X') : RI w X' q h z σ' f d acc n := by
  obtain ⟨cs, hq⟩ := r.rs.tk.heap
  obtain ⟨v, hv, hh, hvz⟩ := r.row
  exact ⟨r.rs.next ht hk, r.hh, r.hz, ⟨v, own_kq hv hq (by decide) hk, hk.blk (blk_ne hh hq (by decide)) hh, hvz⟩, hk.blk (blk_ne r.ins hq (by decide)) r.ins⟩
theorem RI.below {w X X' : World} {q h z : Nat} {σ : Tk} {f d : Int} {acc : List Ins} {n : Ins} (r : RI w X q h z σ f d acc n) (hb : Below X.heap.size X X') : RI w X' q h z σ f d acc n := by
  obtain ⟨v, hv, hh, hvz⟩ := r.row
  exact ⟨r.rs.below hb, r.hh, r.hz, ⟨v, hv.below hb, blk_below hh hb, hvz⟩, blk_below r.ins hb⟩
theorem RI.put {w X : World} {q h z : Nat} {σ : Tk} {f d : Int} {acc : List Ins} {n n' : Ins} (r : RI w X q h z σ f d acc n) (j : Nat) (y : Value) (hn : n'.cells = n.cells.setIfInBounds j y) : RI w (X.setCell ⟨z, j, none⟩ y) q h z σ f d acc n' := by
  obtain ⟨v, hv, hh, hvz⟩ := r.row
  have hk := (Kp.refl (· = z) X).set (p := ⟨z, j, none⟩) rfl y
  exact ⟨r.rs.far r.ins (by decide) r.hz hk, r.hh, r.hz, ⟨v, hv.kp hk (fun g hg e => hvz g hg e), hk.blk (blk_ne hh r.ins (by decide)) hh, hvz⟩, by rw [hn]; exact blk_set r.ins j y⟩
theorem insJ_op (σ : Tk) (i : Int) : ∀ j, (insJ σ i j).op = (σ.rd byteOf).1
  | 0 => rfl
  | 1 => rfl
  | 2 => rfl
  | _ + 3 => rfl
theorem RI.op {w X : World} {q h z : Nat} {σ : Tk} {f d : Int} {acc : List Ins} {n : Ins} (r : RI w X q h z σ f d acc n) : X.cell? ⟨z, 0, none⟩ = some (.int .i64 n.op) := blk_cell r.ins 0
theorem RI.cell {w X : World} {q h z : Nat} {σ : Tk} {f d : Int} {acc : List Ins} {n : Ins} (r : RI w X q h z σ f d acc n) (j : Nat) (hj : j < 6) : X.cell? ⟨z, j, none⟩ = n.cells[j]? ∧ X.frozen? ⟨z, j, none⟩ = false := ⟨blk_cell r.ins j, blk_frozen r.ins j⟩
theorem RI.recast {w X : World} {q h z : Nat} {σ : Tk} {f d : Int} {acc : List Ins} {n n' : Ins} (r : RI w X q h z σ f d acc n) (hn : n'.cells = n.cells) : RI w X q h z σ f d acc n' :=
  ⟨r.rs, r.hh, r.hz, r.row, by rw [hn]; exact r.ins⟩
theorem RH.inst {w X : World} {q h : Nat} {σ : Tk} {f d : Int} {acc : List Ins} (r : RH w X q h σ f d acc 0) (n : Ins) : RI w (X.alloc (.cells n.cells 92)) q h X.heap.size σ f d acc n := by
  obtain ⟨v, hv, hh⟩ := r.row
  refine ⟨r.rs.below (bl1 _), r.hh, blk_lt r.rs.z, ⟨v, hv.below (bl1 _), blk_below hh (bl1 _), fun g hg e => ?_⟩, blk_new _ _⟩
  obtain ⟨cs, hcs⟩ := hv.heap hg
  have := blk_lt hcs
  omega
def insK (σ : Tk) (i y : Int) : Ins := ⟨(σ.rd byteOf).1, (dA σ i).1, (dB σ i).1, (dC σ i).1, y, 0⟩
theorem insK_put (σ : Tk) (i y : Int) : (insK σ i y).cells = (insJ σ i 3).cells.setIfInBounds 4 (.int .i64 y) := by simp [insK, insJ, Ins.cells]
theorem decI_0 {σ : Tk} {i : Int} (h1 : ¬ howN (σ.rd byteOf).1 = 1) (h2 : ¬ howN (σ.rd byteOf).1 = 2) (h3 : ¬ howN (σ.rd byteOf).1 = 3) (h4 : ¬ howN (σ.rd byteOf).1 = 4) : (decI σ i).1.cells = (insJ σ i 3).cells ∧ (decI σ i).2 = tkJ σ i 3 := by
  simp [decI, dS, dK, h1, h2, h3, h4, insJ, tkJ, Ins.cells]
theorem decI_1 {σ : Tk} {i : Int} (h : howN (σ.rd byteOf).1 = 1) : (decI σ i).1.cells = (insJ σ i 3).cells.setIfInBounds 4 (.int .i64 ((tkJ σ i 3).rd sintOf).1) ∧ (decI σ i).2 = ((tkJ σ i 3).rd sintOf).2 := by
  simp [decI, dS, dK, h, insJ, tkJ, Ins.cells]
theorem decI_2 {σ : Tk} {i : Int} (h : howN (σ.rd byteOf).1 = 2) : (decI σ i).1.cells = (insJ σ i 3).cells.setIfInBounds 4 (.int .i64 ((tkJ σ i 3).rd byteOf).1) ∧ (decI σ i).2 = ((tkJ σ i 3).rd byteOf).2 := by
  simp [decI, dS, dK, h, insJ, tkJ, Ins.cells]
theorem decI_3 {σ : Tk} {i : Int} (h : howN (σ.rd byteOf).1 = 3) : (decI σ i).1.cells = (insJ σ i 3).cells.setIfInBounds 4 (.int .i64 ((tkJ σ i 3).rd uintOf).1) ∧ (decI σ i).2 = ((tkJ σ i 3).rd uintOf).2 := by
  simp [decI, dS, dK, h, insJ, tkJ, Ins.cells]
theorem decI_4 {σ : Tk} {i : Int} (h : howN (σ.rd byteOf).1 = 4) : (decI σ i).1.cells = (insK σ i ((tkJ σ i 3).rd uintOf).1).cells.setIfInBounds 5 (.int .i64 (((tkJ σ i 3).rd uintOf).2.rd byteOf).1) ∧ (decI σ i).2 = (((tkJ σ i 3).rd uintOf).2.rd byteOf).2 := by
  simp [decI, dS, dK, h, insK, insJ, tkJ, Ins.cells]
theorem TkR.grownN {w X X1 : World} {q : Nat} {σ : Tk} {v : Value} {l : List Ins} (h : TkR w X q σ) (hv : OwN X w.heap.size v l) (hg : X.grownBy X1 v.ownBlock) : TkR w X1 q σ := by
  obtain ⟨u, h1, h2, h3, h4, h5⟩ := h
  exact ⟨u, blk_grownN h1 hv (by decide) hg, h2, h3.grown hg h3.size (fun g hg => (hv.blockGe g hg).1), h4, h5⟩
theorem RI.fin {w X X1 W : World} {q h z : Nat} {σ : Tk} {f d : Int} {acc acc' : List Ins} {n : Ins} {v v' : Value} (r : RI w X q h z σ f d acc n) (hv : OwN X w.heap.size v acc)
    (hh : X.heap[h]? = some (.cells #[.int .i64 f, .int .i64 d, v, .int .i64 0] 64 (0, 0))) (hb : Below X.heap.size X X1) (hg : X1.grownBy W v.ownBlock) (hO : OwN W w.heap.size v' acc') :
    RH w (W.setCell ⟨h, 2, none⟩ v') q h σ f d acc' 0 := by
  have r1 := r.rs.below hb
  have hv1 := hv.below hb
  have hh1 := blk_grownN (blk_below hh hb) hv1 (by decide) hg
  have r2 : RS w W q σ := ⟨r1.tk.grownN hv1 hg, blk_grownN r1.z hv1 (by decide) hg⟩
  have hk := (Kp.refl (· = h) W).set (p := ⟨h, 2, none⟩) rfl v'
  exact ⟨r2.far hh1 (by decide) r.hh hk, r.hh, v', own_kq hO hh1 (by decide) hk, blk_set hh1 2 _⟩
def RtRel (w : World) (q h : Nat) (σ : Tk) (m f d : Int) (x : Value) (wr : World) : Prop :=
  ∃ k : Nat, (k : Int) ≤ m ∧ x = .int .i64 k ∧ (∀ j, j < k → (decN σ j).2.e = 0) ∧ RH w wr q h (decN σ k).2 f d (decN σ k).1 0
set_option maxRecDepth 20000 in
set_option maxHeartbeats 16000000 in
theorem rdecode_short (v : Value) (l : List Int) (w : World) (hr : RdS w .u8 v l) (hby : Byt l) (h : l.length ≤ 4096) :
    Calls Try.prog 46 #[v] w (DecPost w (decC l)) := by
  have HR := Lib.hid hr
  have HB := Lib.hid hby
  have HLN := Lib.hid h
  obtain ⟨A, c, rfl, -, -, hA⟩ := hr
  clear hA hby
  obtain ⟨n, hn⟩ : ∃ n, l.length = n := ⟨_, rfl⟩
  rw [hn] at h HR ⊢
  clear hn
  obtain ⟨⟨x1, τ1⟩, e1⟩ : ∃ r, (⟨l, 0⟩ : Tk).rd byteOf = r := ⟨_, rfl⟩
  have C1 : ∀ q W, TkR w W q ⟨l, 0⟩ → Hid (Calls Try.prog 75 #[.pointer (some ⟨q, 0, none⟩)] W (TkPost w W q (x1, τ1))) := fun q W h => by have := rtSmall w q _ W h; rw [e1] at this; exact Lib.hid this
  have D1 := Lib.hid (show d1 l = τ1.fail (decide (x1 ≠ 1)) 3 by unfold d1; rw [e1])
  obtain ⟨τ2, e2⟩ : ∃ r, d1 l = r := ⟨_, rfl⟩
  obtain ⟨⟨f, τ3⟩, e3⟩ : ∃ r, τ2.rd byteOf = r := ⟨_, rfl⟩
  have C3 : ∀ q W, TkR w W q τ2 → Hid (Calls Try.prog 75 #[.pointer (some ⟨q, 0, none⟩)] W (TkPost w W q (f, τ3))) := fun q W h => by have := rtSmall w q _ W h; rw [e3] at this; exact Lib.hid this
  have D2 := Lib.hid (show d2 l = (f, τ3) by unfold d2; rw [e2, e3])
  obtain ⟨⟨d, τ4⟩, e4⟩ : ∃ r, τ3.rd byteOf = r := ⟨_, rfl⟩
  have C4 : ∀ q W, TkR w W q τ3 → Hid (Calls Try.prog 75 #[.pointer (some ⟨q, 0, none⟩)] W (TkPost w W q (d, τ4))) := fun q W h => by have := rtSmall w q _ W h; rw [e4] at this; exact Lib.hid this
  have D3 := Lib.hid (show d3 l = (d, τ4) by unfold d3; rw [D2.out]; exact e4)
  obtain ⟨⟨m, τ5⟩, e5⟩ : ∃ r, τ4.rd uintOf = r := ⟨_, rfl⟩
  have C5 : ∀ q W, TkR w W q τ4 → Hid (Calls Try.prog 76 #[.pointer (some ⟨q, 0, none⟩)] W (TkPost w W q (m, τ5))) := fun q W h => by have := rtNat w q _ W h; rw [e5] at this; exact Lib.hid this
  have D4 := Lib.hid (show d4 l = (m, τ5) by unfold d4; rw [D3.out]; exact e5)
  have D5 := Lib.hid (show d5 l = τ5.fail (decide (m < 1 ∨ 200 < m)) 15 by unfold d5; rw [D4.out])
  obtain ⟨σ, e6⟩ : ∃ r, d5 l = r := ⟨_, rfl⟩
  have hm := d4_rg l
  rw [D4.out] at hm
  obtain ⟨m0, m1⟩ := hm
  have hOK := Lib.hid (fun h => d5_ok (l := l) h)
  rw [e6, D4.out] at hOK
  have hBY := Lib.hid (d5_byt HB.out)
  rw [e6] at hBY
  rw [e2] at D1
  rw [e6] at D5
  have D6 := Lib.hid (show d6 l = decN σ m.toNat by unfold d6; rw [e6, D4.out])
  have D7 := Lib.hid (show d7 l = (d6 l).2.reg m by unfold d7; rw [D4.out])
  clear e1 e2 e3 e4 e5 e6
  simp only at m0 m1
  go_enter Try.func46, Try.ntmps46
  go_wp2_with fail
  have R0 : Hid (RS w ((w.alloc (Obj.cells #[Value.int IntKind.i64 0, Value.int IntKind.i64 0, Value.slice none 0 0, Value.int IntKind.i64 0] 64)).alloc (Obj.cells #[Value.slice A n c, Value.int IntKind.i64 0] 102)) (w.heap.size + 1) ⟨l, 0⟩) := by
    refine Lib.hid ⟨⟨_, ?_, HR.out, ?_, Nat.le_succ _, HB.out⟩, ?_⟩
    · have := blk_new (w.alloc (Obj.cells #[Value.int IntKind.i64 0, Value.int IntKind.i64 0, Value.slice none 0 0, Value.int IntKind.i64 0] 64)) (Obj.cells #[Value.slice A n c, Value.int IntKind.i64 0] 102)
      rw [World.size_alloc] at this
      exact this
    · exact by repeat (first | exact Below.refl _ _ | apply bl_alloc | apply bl_drew | apply bl_drewN | (refine bl_tr' (by assumption) ?_))
    · exact blk_below (blk_new w _) (bl1 _)
  obtain ⟨q, hq⟩ : ∃ q, w.heap.size + 1 = q := ⟨_, rfl⟩
  have hqw : w.heap.size < q := by omega
  rw [hq] at R0 ⊢
  generalize ((w.alloc (Obj.cells #[Value.int IntKind.i64 0, Value.int IntKind.i64 0, Value.slice none 0 0, Value.int IntKind.i64 0] 64)).alloc (Obj.cells #[Value.slice A n c, Value.int IntKind.i64 0] 102)) = w0 at R0 ⊢
  clear hq
  refine use_tk (C1 q _ R0.out.tk).out ?_
  intro w1 ht1 hk1
  have R1 := Lib.hid (R0.out.next ht1.out hk1.out)
  simp only at R1 ⊢
  clear ht1 hk1 C1 R0
  go_upto_region 5 with fail
  go_cut [28] from 20 to 28 (fun s28 wx => s28 = .bool ((τ1.e == 0) && (x1 != 1)) ∧ wx = w1)
  case first =>
    have k1 := R1.out.tk.cell.1
    by_cases he : τ1.e = 0
    · rw [he] at k1
      have HE := Lib.hid he
      clear he D1
      go_wp2_with fail
      go_meet
      exact ⟨by rw [HE.out]; rfl, rfl⟩
    · have e1 : (τ1.e == 0) = false := by simpa using he
      clear he D1
      go_wp2_with fail
      go_meet
      exact ⟨by rw [e1]; rfl, rfl⟩
  case rest =>
  obtain ⟨rfl, rfl⟩ := hcut
  obtain ⟨B, hB⟩ : ∃ B, ((τ1.e == 0) && (x1 != 1)) = B := ⟨_, rfl⟩
  have D1B : Hid (τ2 = if B then ⟨τ1.t, 3⟩ else τ1) := Lib.hid (by
    rw [D1.out, ← hB]; unfold Tk.fail
    by_cases h1 : τ1.e = 0 <;> by_cases h2 : x1 = 1 <;> simp [h1, h2])
  rw [hB]
  clear hB D1
  go_upto_if 28 with fail
  go_cut [] from 29 to 31 (fun wx => RS w wx q τ2)
  case first =>
    have k1 := R1.out.tk.cell.1
    have k2 := R1.out.tk.cell.2
    cases B with
    | true =>
      go_wp2_with fail
      go_meet
      rw [D1B.out]
      exact R1.out.set 3
    | false =>
      go_wp2_with fail
      go_meet
      rw [D1B.out]
      exact R1.out
  case rest =>
  have R2 := Lib.hid hcut
  clear hcut R1 D1B
  go_wp2_with fail
  have RH2 : Hid (RH w (wc.alloc (Obj.cells #[Value.int IntKind.i64 0, Value.int IntKind.i64 0, Value.slice none 0 0, Value.int IntKind.i64 0] 64)) q wc.heap.size τ2 0 0 [] 0) :=
    Lib.hid ⟨R2.out.below (bl1 _), blk_lt R2.out.z, _, OwN.nil _ _, blk_new wc _⟩
  obtain ⟨h, hh⟩ : ∃ h, wc.heap.size = h := ⟨_, rfl⟩
  rw [hh] at RH2 ⊢
  have hhw : w.heap.size < h := RH2.out.hh
  generalize (wc.alloc (Obj.cells #[Value.int IntKind.i64 0, Value.int IntKind.i64 0, Value.slice none 0 0, Value.int IntKind.i64 0] 64)) = w2 at RH2 ⊢
  clear hh R2
  refine use_tk (C3 q _ RH2.out.rs.tk).out ?_
  intro w3 ht3 hk3
  have R3 := Lib.hid (RH2.out.next ht3.out hk3.out)
  simp only at R3 ⊢
  clear ht3 hk3 C3 RH2
  obtain ⟨x0, y0⟩ := R3.out.cell 0 (by decide)
  have R3S : Hid (RH w (w3.setCell ⟨h, 0, none⟩ (.int .i64 f)) q h τ3 f 0 [] 0) := Lib.hid (R3.out.put0 f)
  go_upto_region 9 with fail
  generalize (w3.setCell ⟨h, 0, none⟩ (.int .i64 f)) = w4 at R3S ⊢
  clear x0 y0 R3
  go_wp2_with fail
  refine use_tk (C4 q _ R3S.out.rs.tk).out ?_
  intro w5 ht5 hk5
  have R5 := Lib.hid (R3S.out.next ht5.out hk5.out)
  simp only at R5 ⊢
  clear ht5 hk5 C4 R3S
  obtain ⟨x0, y0⟩ := R5.out.cell 1 (by decide)
  have R5S : Hid (RH w (w5.setCell ⟨h, 1, none⟩ (.int .i64 d)) q h τ4 f d [] 0) := Lib.hid (R5.out.put1 d)
  go_upto_region 10 with fail
  generalize (w5.setCell ⟨h, 1, none⟩ (.int .i64 d)) = w6 at R5S ⊢
  clear x0 y0 R5
  go_wp2_with fail
  refine use_tk (C5 q _ R5S.out.rs.tk).out ?_
  intro w7 ht7 hk7
  have R7 := Lib.hid (R5S.out.next ht7.out hk7.out)
  simp only at R7 ⊢
  clear ht7 hk7 C5 R5S
  go_upto_region 11 with fail
  go_cut [54] from 42 to 54 (fun s54 wx => s54 = .bool ((τ5.e == 0) && (decide (m < 1) || decide (200 < m))) ∧ wx = w7)
  case first =>
    have k1 := R7.out.rs.tk.cell.1
    by_cases he : τ5.e = 0
    · rw [he] at k1
      have HE := Lib.hid he
      clear he
      by_cases hm0 : m = 0
      · subst hm0
        clear D4 D5 D6 D7 hOK
        go_wp2_with fail
        go_meet
        exact ⟨by rw [HE.out]; rfl, rfl⟩
      · have e0 : (m == 0) = false := by simpa using hm0
        have e1 : decide (m < 1) = false := by simp; omega
        have E1 := Lib.hid e1
        clear hm0 e1
        go_wp2_with fail
        go_meet
        exact ⟨by rw [HE.out, E1.out]; rfl, rfl⟩
    · have e1 : (τ5.e == 0) = false := by simpa using he
      clear he
      go_wp2_with fail
      go_meet
      exact ⟨by rw [e1]; rfl, rfl⟩
  case rest =>
  obtain ⟨rfl, rfl⟩ := hcut
  obtain ⟨B, hB⟩ : ∃ B, ((τ5.e == 0) && (decide (m < 1) || decide (200 < m))) = B := ⟨_, rfl⟩
  have D5B : Hid (σ = if B then ⟨τ5.t, 15⟩ else τ5) := Lib.hid (by
    rw [D5.out, ← hB]; unfold Tk.fail
    by_cases h1 : τ5.e = 0 <;> by_cases h2 : m < 1 <;> by_cases h3 : 200 < m <;> simp [h1, h2, h3])
  rw [hB]
  clear hB D5
  go_upto_if 54 with fail
  go_cut [] from 55 to 57 (fun wx => RH w wx q h σ f d [] 0)
  case first =>
    have k1 := R7.out.rs.tk.cell.1
    have k2 := R7.out.rs.tk.cell.2
    cases B with
    | true =>
      go_wp2_with fail
      go_meet
      rw [D5B.out]
      exact R7.out.set 15
    | false =>
      go_wp2_with fail
      go_meet
      rw [D5B.out]
      exact R7.out
  case rest =>
  have R8 := Lib.hid hcut
  clear hcut R7 D5B
  go_upto_block 0 with fail
  go_cut [8, 9, 10, 97, 102, 107, 112] from 58 to 125 (fun _ _ _ _ _ _ _ wx => RH w wx q h (d6 l).2 f d (d6 l).1 0)
  case first =>
    go_wp2_with fail
    go_loopw [8] (fun x wr => RtRel w q h σ m f d x wr) (fun x _ => m.toNat - (intOf x).toNat)
    case atStart => exact ⟨0, by omega, rfl, fun j hj => absurd hj (Nat.not_lt_zero _), R8.out⟩
    case round =>
      obtain ⟨k, hk, rfl, hok, hR⟩ := hrel
      have HOK := Lib.hid hok
      have HRR := Lib.hid hR
      clear hok hR R8
      obtain ⟨τ, hτ⟩ : ∃ x, (decN σ k).2 = x := ⟨_, rfl⟩
      obtain ⟨acc, hacc⟩ : ∃ x, (decN σ k).1 = x := ⟨_, rfl⟩
      rw [hτ, hacc] at HRR
      have HT := Lib.hid hτ
      have HA := Lib.hid hacc
      have hlen := Lib.hid (decN_len HOK.out)
      rw [hacc] at hlen
      clear hτ hacc
      have k1 := HRR.out.rs.tk.cell.1
      by_cases hlt : (k : Int) < m
      · by_cases he : τ.e = 0
        · rw [he] at k1
          have HE := Lib.hid he
          have hsig : σ.e = 0 := by
            by_cases h0 : k = 0
            · subst h0; have := HT.out; rw [← this] at he; exact he
            · exact HOK.out 0 (by omega)
          have hm2 := hOK.out hsig
          have hnx := Lib.hid (show decN σ (k + 1) = (acc ++ [(decI τ k).1], (decI τ k).2) by rw [decN_ok (by rw [HT.out]; exact he), HT.out, HA.out])
          have hok2 := Lib.hid (show ∀ j, j < k + 1 → (decN σ j).2.e = 0 from fun j hj => by
            by_cases h0 : j = k
            · subst h0; rw [HT.out]; exact he
            · exact HOK.out j (by omega))
          clear he hsig
          go_wp2_with fail
          refine use_tk (rtSmall w q τ _ HRR.out.rs.tk) ?_
          intro w1 ht1 hk1
          have R1 := Lib.hid (HRR.out.next ht1.out hk1.out)
          simp only at R1 ⊢
          clear ht1 hk1 k1
          have hkm : (k : Int) ≤ 9223372036854775807 := by omega
          obtain ⟨op, hop⟩ : ∃ x, (τ.rd byteOf).1 = x := ⟨_, rfl⟩
          have HOP := Lib.hid hop
          rw [hop]
          have RZ0 : Hid (RI w (w1.alloc (.cells (insJ τ k 0).cells 92)) q h w1.heap.size (tkJ τ k 0) f d acc (insJ τ k 0)) := Lib.hid (R1.out.inst _)
          have hc0 : (insJ τ k 0).cells = #[.int .i64 op, .int .i64 0, .int .i64 0, .int .i64 0, .int .i64 0, .int .i64 0] := by rw [← hop]; rfl
          rw [hc0] at RZ0
          clear hop
          go_upto_region 17 with fail
          obtain ⟨z, hz⟩ : ∃ z, w1.heap.size = z := ⟨_, rfl⟩
          rw [hz] at RZ0 ⊢
          generalize (w1.alloc (.cells #[.int .i64 op, .int .i64 0, .int .i64 0, .int .i64 0, .int .i64 0, .int .i64 0] 92)) = w2 at RZ0 ⊢
          clear hz R1 hc0
          have x0 : w2.cell? ⟨z, 0, none⟩ = some (.int .i64 op) := by have := RZ0.out.op; rw [insJ_op, HOP.out] at this; exact this
          obtain ⟨N, hn⟩ : ∃ N, ar op = N := ⟨_, rfl⟩
          have hN : Hid (ar (τ.rd byteOf).1 = N) := Lib.hid (by rw [HOP.out]; exact hn)
          have hra := fun W => Lib.hid (rArity_any op W)
          rw [hn] at hra
          clear hn
          go_wp2_with fail
          refine use_b (hra _).out ?_
          intro w3 hb3
          have RZ0 := Lib.hid (RZ0.out.below hb3.out)
          clear hra hb3 x0
          go_upto_if 77 with fail
          go_cut [] from 76 to 81 (fun wx => RI w wx q h z (tkJ τ k 1) f d acc (insJ τ k 1))
          case first =>
            obtain ⟨x0, y0⟩ := RZ0.out.cell 1 (by decide)
            by_cases hlt : (0 : Int) < N
            · obtain ⟨hi, ht⟩ := insJ_yes (σ := τ) (i := k) (j := 0) (by decide) (by rw [hN.out]; exact hlt)
              have HI := Lib.hid hi
              have HTT := Lib.hid ht
              clear hi ht
              go_wp2_with fail
              refine use_tk (rtBack w q (tkJ τ k 0) k _ RZ0.out.rs.tk (Int.natCast_nonneg k) hkm) ?_
              intro w3 ht3 hk3
              have R3 := Lib.hid (RZ0.out.next ht3.out hk3.out)
              simp only at R3 ⊢
              clear ht3 hk3 x0 y0
              obtain ⟨x0, y0⟩ := R3.out.cell 1 (by decide)
              go_wp2_with fail
              go_meet
              rw [HTT.out]
              exact R3.out.put 1 _ HI.out
            · obtain ⟨hi, ht⟩ := insJ_no (σ := τ) (i := k) (j := 0) (by decide) (by rw [hN.out]; exact hlt)
              have HI := Lib.hid hi
              have HTT := Lib.hid ht
              clear hi ht
              go_wp2_with fail
              go_meet
              rw [HTT.out]
              exact RZ0.out.recast HI.out
          case rest =>
          have RZ1 := Lib.hid hcut
          clear hcut RZ0
          go_upto_if 83 with fail
          go_cut [] from 82 to 87 (fun wx => RI w wx q h z (tkJ τ k 2) f d acc (insJ τ k 2))
          case first =>
            obtain ⟨x0, y0⟩ := RZ1.out.cell 2 (by decide)
            by_cases hlt : (1 : Int) < N
            · obtain ⟨hi, ht⟩ := insJ_yes (σ := τ) (i := k) (j := 1) (by decide) (by rw [hN.out]; exact hlt)
              have HI := Lib.hid hi
              have HTT := Lib.hid ht
              clear hi ht
              go_wp2_with fail
              refine use_tk (rtBack w q (tkJ τ k 1) k _ RZ1.out.rs.tk (Int.natCast_nonneg k) hkm) ?_
              intro w3 ht3 hk3
              have R3 := Lib.hid (RZ1.out.next ht3.out hk3.out)
              simp only at R3 ⊢
              clear ht3 hk3 x0 y0
              obtain ⟨x0, y0⟩ := R3.out.cell 2 (by decide)
              go_wp2_with fail
              go_meet
              rw [HTT.out]
              exact R3.out.put 2 _ HI.out
            · obtain ⟨hi, ht⟩ := insJ_no (σ := τ) (i := k) (j := 1) (by decide) (by rw [hN.out]; exact hlt)
              have HI := Lib.hid hi
              have HTT := Lib.hid ht
              clear hi ht
              go_wp2_with fail
              go_meet
              rw [HTT.out]
              exact RZ1.out.recast HI.out
          case rest =>
          have RZ2 := Lib.hid hcut
          clear hcut RZ1
          go_upto_if 89 with fail
          go_cut [] from 88 to 93 (fun wx => RI w wx q h z (tkJ τ k 3) f d acc (insJ τ k 3))
          case first =>
            obtain ⟨x0, y0⟩ := RZ2.out.cell 3 (by decide)
            by_cases hlt : (2 : Int) < N
            · obtain ⟨hi, ht⟩ := insJ_yes (σ := τ) (i := k) (j := 2) (by decide) (by rw [hN.out]; exact hlt)
              have HI := Lib.hid hi
              have HTT := Lib.hid ht
              clear hi ht
              go_wp2_with fail
              refine use_tk (rtBack w q (tkJ τ k 2) k _ RZ2.out.rs.tk (Int.natCast_nonneg k) hkm) ?_
              intro w3 ht3 hk3
              have R3 := Lib.hid (RZ2.out.next ht3.out hk3.out)
              simp only at R3 ⊢
              clear ht3 hk3 x0 y0
              obtain ⟨x0, y0⟩ := R3.out.cell 3 (by decide)
              go_wp2_with fail
              go_meet
              rw [HTT.out]
              exact R3.out.put 3 _ HI.out
            · obtain ⟨hi, ht⟩ := insJ_no (σ := τ) (i := k) (j := 2) (by decide) (by rw [hN.out]; exact hlt)
              have HI := Lib.hid hi
              have HTT := Lib.hid ht
              clear hi ht
              go_wp2_with fail
              go_meet
              rw [HTT.out]
              exact RZ2.out.recast HI.out
          case rest =>
          have RZ3 := Lib.hid hcut
          clear hcut RZ2
          have x0 := RZ3.out.op
          rw [insJ_op, HOP.out] at x0
          obtain ⟨H, hh⟩ : ∃ H, howN op = H := ⟨_, rfl⟩
          have hH : Hid (howN (τ.rd byteOf).1 = H) := Lib.hid (by rw [HOP.out]; exact hh)
          have hra := fun W => Lib.hid (how_any op W)
          rw [hh] at hra
          clear hh
          go_wp2_with fail
          refine use_b (hra _).out ?_
          intro w4 hb4
          have RZ4 := Lib.hid (RZ3.out.below hb4.out)
          clear hra hb4 x0 RZ3
          go_upto_block 2 with fail
          go_cut [97, 102, 107, 112] from 94 to 119 (fun _ _ _ _ wx => RI w wx q h z (decI τ k).2 f d acc (decI τ k).1)
          case first =>
            obtain ⟨x0, y0⟩ := RZ4.out.cell 4 (by decide)
            obtain ⟨x5, y5⟩ := RZ4.out.cell 5 (by decide)
            by_cases h1 : H = 1
            · subst h1
              obtain ⟨hi, ht⟩ := decI_1 (i := k) hH.out
              have HI := Lib.hid hi
              have HTT := Lib.hid ht
              clear hi ht
              go_wp2_with fail
              refine use_tk (rtNum w q (tkJ τ k 3) _ RZ4.out.rs.tk) ?_
              intro w5 ht5 hk5
              have R5 := Lib.hid (RZ4.out.next ht5.out hk5.out)
              simp only at R5 ⊢
              clear ht5 hk5 x0 y0 x5 y5
              obtain ⟨x0, y0⟩ := R5.out.cell 4 (by decide)
              go_wp2_with fail
              go_meet
              rw [HTT.out]
              exact R5.out.put 4 _ HI.out
            by_cases h2 : H = 2
            · subst h2
              obtain ⟨hi, ht⟩ := decI_2 (i := k) hH.out
              have HI := Lib.hid hi
              have HTT := Lib.hid ht
              clear hi ht
              go_wp2_with fail
              refine use_tk (rtSmall w q (tkJ τ k 3) _ RZ4.out.rs.tk) ?_
              intro w5 ht5 hk5
              have R5 := Lib.hid (RZ4.out.next ht5.out hk5.out)
              simp only at R5 ⊢
              clear ht5 hk5 x0 y0 x5 y5
              obtain ⟨x0, y0⟩ := R5.out.cell 4 (by decide)
              go_wp2_with fail
              go_meet
              rw [HTT.out]
              exact R5.out.put 4 _ HI.out
            by_cases h3 : H = 3
            · subst h3
              obtain ⟨hi, ht⟩ := decI_3 (i := k) hH.out
              have HI := Lib.hid hi
              have HTT := Lib.hid ht
              clear hi ht
              go_wp2_with fail
              refine use_tk (rtNat w q (tkJ τ k 3) _ RZ4.out.rs.tk) ?_
              intro w5 ht5 hk5
              have R5 := Lib.hid (RZ4.out.next ht5.out hk5.out)
              simp only at R5 ⊢
              clear ht5 hk5 x0 y0 x5 y5
              obtain ⟨x0, y0⟩ := R5.out.cell 4 (by decide)
              go_wp2_with fail
              go_meet
              rw [HTT.out]
              exact R5.out.put 4 _ HI.out
            by_cases h4 : H = 4
            · subst h4
              obtain ⟨hi, ht⟩ := decI_4 (i := k) hH.out
              have HI := Lib.hid hi
              have HTT := Lib.hid ht
              clear hi ht
              go_wp2_with fail
              refine use_tk (rtNat w q (tkJ τ k 3) _ RZ4.out.rs.tk) ?_
              intro w5 ht5 hk5
              have R5 := Lib.hid (RZ4.out.next ht5.out hk5.out)
              simp only at R5 ⊢
              clear ht5 hk5 x0 y0 x5 y5
              obtain ⟨x0, y0⟩ := R5.out.cell 4 (by decide)
              have R6 := Lib.hid (R5.out.put (n' := insK τ k ((tkJ τ k 3).rd uintOf).1) 4 (.int .i64 ((tkJ τ k 3).rd uintOf).1) (insK_put _ _ _))
              go_upto_region 33 with fail
              generalize (w5.setCell ⟨z, 4, none⟩ (.int .i64 ((tkJ τ k 3).rd uintOf).1)) = w6 at R6 ⊢
              clear x0 y0 R5
              go_wp2_with fail
              refine use_tk (rtSmall w q ((tkJ τ k 3).rd uintOf).2 _ R6.out.rs.tk) ?_
              intro w7 ht7 hk7
              have R7 := Lib.hid (R6.out.next ht7.out hk7.out)
              simp only at R7 ⊢
              clear ht7 hk7
              obtain ⟨x0, y0⟩ := R7.out.cell 5 (by decide)
              go_wp2_with fail
              go_meet
              rw [HTT.out]
              exact R7.out.put 5 _ HI.out
            · obtain ⟨hi, ht⟩ := decI_0 (i := k) (σ := τ) (by rw [hH.out]; exact h1) (by rw [hH.out]; exact h2) (by rw [hH.out]; exact h3) (by rw [hH.out]; exact h4)
              have HI := Lib.hid hi
              have HTT := Lib.hid ht
              have q1 : (H == 1) = false := by simpa using h1
              have q2 : (H == 2) = false := by simpa using h2
              have q3 : (H == 3) = false := by simpa using h3
              have q4 : (H == 4) = false := by simpa using h4
              clear hi ht h1 h2 h3 h4
              go_wp2_with fail
              go_meet
              rw [HTT.out]
              exact RZ4.out.recast HI.out
          case rest =>
          have RZ5 := Lib.hid hcut
          clear hcut RZ4
          obtain ⟨⟨⟨o, a2, b2, c2, k2, s2⟩, τ'⟩, hd⟩ : ∃ r, decI τ k = r := ⟨_, rfl⟩
          rw [hd] at RZ5 hnx
          clear hd
          obtain ⟨v, hv, hvh, hvz⟩ := RZ5.out.row
          obtain ⟨Av, cv, rfl⟩ := hv.form
          have HV := Lib.hid hv
          have HVH := Lib.hid hvh
          clear hv hvh hvz
          have h2 : wc.cell? ⟨h, 2, none⟩ = some (.slice Av acc.length cv) := blk_cell HVH.out 2
          have z0 : wc.cell? ⟨z, 0, none⟩ = some (.int .i64 o) := blk_cell RZ5.out.ins 0
          have z1 : wc.cell? ⟨z, 1, none⟩ = some (.int .i64 a2) := blk_cell RZ5.out.ins 1
          have z2 : wc.cell? ⟨z, 2, none⟩ = some (.int .i64 b2) := blk_cell RZ5.out.ins 2
          have z3 : wc.cell? ⟨z, 3, none⟩ = some (.int .i64 c2) := blk_cell RZ5.out.ins 3
          have z4 : wc.cell? ⟨z, 4, none⟩ = some (.int .i64 k2) := blk_cell RZ5.out.ins 4
          have z5 : wc.cell? ⟨z, 5, none⟩ = some (.int .i64 s2) := blk_cell RZ5.out.ins 5
          have h1l := Lib.hid (show ([⟨o, a2, b2, c2, k2, s2⟩] : List Ins).length ≤ 9223372036854775807 by simp)
          have hbd := Lib.hid (show (acc.length + ([⟨o, a2, b2, c2, k2, s2⟩] : List Ins).length) * 48 ≤ 140737488355328 by rw [hlen.out]; simp; omega)
          have hwc : w.heap.size ≤ wc.heap.size := RZ5.out.rs.tk.bl.size
          go_wp2_with (at_builtin; refine ap_rowN w.heap.size rfl (.tmp 121) (.tmp 123) 62 (.agg #[.int .i64 0, .int .i64 0, .int .i64 0, .int .i64 0, .int .i64 0, .int .i64 0]) 48 rfl Try.underlying62 info_ins rfl (by decide) acc [⟨o, a2, b2, c2, k2, s2⟩] (acc.length + 1) (HV.out.below (bl1 _)) (OwN.lit (W := wc) (base := 0) [⟨o, a2, b2, c2, k2, s2⟩] (Nat.zero_le _) h1l.out).rd (Nat.le_trans hwc (bl1 _).size) hbd.out rfl ?_; intro A4 c4 w5 hO5 hg5 hat5; have HH5 := Lib.hid (blk_grownN (blk_below HVH.out (bl1 _)) (HV.out.below (bl1 _)) (by decide) hg5.out); have h5c : w5.cell? ⟨h, 2, none⟩ = some (.slice Av acc.length cv) := blk_cell HH5.out 2; have h5z : w5.frozen? ⟨h, 2, none⟩ = false := blk_frozen HH5.out 2)
          go_roundw
          case measure => simp [intOf]; omega
          case rel =>
            refine ⟨k + 1, by omega, by go_num, hok2.out, ?_⟩
            rw [hnx.out]
            exact RI.fin RZ5.out HV.out HVH.out (bl1 _) hg5.out hO5.out
        · have e1 : (τ.e == 0) = false := by simpa using he
          have HD6 : Hid (d6 l = (acc, τ)) := Lib.hid (by rw [D6.out, decN_stop' (n := m.toNat) (k := k) (by rw [HT.out]; exact he) (by omega)]; exact Prod.ext HA.out HT.out)
          clear he
          go_wp2_with fail
          go_meet
          rw [HD6.out]
          exact HRR.out
      · have HD6 : Hid (d6 l = (acc, τ)) := Lib.hid (by rw [D6.out, show m.toNat = k by omega]; exact Prod.ext HA.out HT.out)
        go_wp2_with fail
        go_meet
        rw [HD6.out]
        exact HRR.out
  case rest =>
  have R9 := Lib.hid hcut
  clear hcut R8
  obtain ⟨⟨acc, τ⟩, hd6⟩ : ∃ r, d6 l = r := ⟨_, rfl⟩
  rw [hd6] at R9 D7
  have HD6 := Lib.hid hd6
  obtain ⟨⟨o7, τ7⟩, hd7⟩ : ∃ r, d7 l = r := ⟨_, rfl⟩
  have HD7 := Lib.hid hd7
  have hreg : Hid (τ.reg m = (o7, τ7)) := Lib.hid (by rw [← D7.out, hd7])
  have HWF : Hid (wfL acc) := Lib.hid (by have := d6_wf HB.out; rw [hd6] at this; exact this)
  clear hd6 hd7 D7 D6
  simp only at R9
  go_upto_region 35 with fail
  have k1 := R9.out.rs.tk.cell.1
  go_upto_if 130 with fail
  clear k1
  go_cut [] from 126 to 134 (fun wx => ∃ o', RH w wx q h τ7 f d acc o' ∧ (τ7.e = 0 → o' = o7))
  case first =>
    obtain ⟨x0, y0⟩ := R9.out.cell 3 (by decide)
    by_cases he : τ.e = 0
    · have e1 : (τ.e == 0) = true := by simpa using he
      clear he
      have hc := fun W h => Lib.hid (rtBack w q τ m W h m0 m1)
      rw [hreg.out] at hc
      go_wp2_with fail
      refine use_tk (hc _ R9.out.rs.tk).out ?_
      intro w5 ht5 hk5
      have R5 := Lib.hid (R9.out.next ht5.out hk5.out)
      simp only at R5 ⊢
      clear ht5 hk5 x0 y0
      obtain ⟨x0, y0⟩ := R5.out.cell 3 (by decide)
      go_wp2_with fail
      go_meet
      exact ⟨_, R5.out.put3 _, fun _ => rfl⟩
    · obtain ⟨e7a, e7b⟩ := reg_stop (p := m) he
      rw [hreg.out] at e7a e7b
      simp only at e7a e7b
      have HX := Lib.hid e7a
      have e1 : (τ.e == 0) = false := by simpa using he
      have HE := Lib.hid he
      clear e7a e7b he
      go_wp2_with fail
      go_meet
      rw [HX.out]
      exact ⟨_, R9.out, fun h => absurd h HE.out⟩
  case rest =>
  obtain ⟨o', hr, ho⟩ := hcut
  have R10 := Lib.hid hr
  have HO := Lib.hid ho
  clear hr ho R9
  obtain ⟨wa, hwa⟩ : ∃ x, x = wc := ⟨_, rfl⟩
  subst hwa
  go_upto_region 37 with fail
  go_cut [147] from 135 to 147 (fun s147 wx => s147 = .bool ((τ7.e == 0) && decide (0 < τ7.t.length)) ∧ wx = wa)
  case first =>
    have k1 := R10.out.rs.tk.cell.1
    obtain ⟨u, hu1, hu2, -⟩ := R10.out.rs.tk
    obtain ⟨Au, cu, rfl, -, -, -⟩ := hu2
    have k0 : wa.cell? ⟨q, 0, none⟩ = some (.slice Au τ7.t.length cu) := blk_cell hu1 0
    obtain ⟨nn, hnn⟩ : ∃ nn, τ7.t.length = nn := ⟨_, rfl⟩
    have HNN := Lib.hid hnn
    rw [hnn] at k0
    clear hu1 hnn
    by_cases he : τ7.e = 0
    · rw [he] at k1
      have HE := Lib.hid he
      clear he
      go_wp2_with fail
      go_meet
      exact ⟨by rw [HE.out, HNN.out]; simp, rfl⟩
    · have e1 : (τ7.e == 0) = false := by simpa using he
      clear he
      go_wp2_with fail
      go_meet
      exact ⟨by rw [e1]; rfl, rfl⟩
  case rest =>
  obtain ⟨rfl, rfl⟩ := hcut
  obtain ⟨B, hB⟩ : ∃ B, ((τ7.e == 0) && decide (0 < τ7.t.length)) = B := ⟨_, rfl⟩
  have D8 : Hid (d8 l = if B then 5 else τ7.e) := Lib.hid (by
    unfold d8; rw [HD7.out, ← hB]
    by_cases h1 : τ7.e = 0 <;> by_cases h2 : 0 < τ7.t.length <;> simp [h1, h2])
  rw [hB]
  clear hB
  go_upto_if 147 with fail
  go_cut [] from 148 to 150 (fun wx => RH w wx q h ⟨τ7.t, d8 l⟩ f d acc o')
  case first =>
    have k1 := R10.out.rs.tk.cell.1
    have k2 := R10.out.rs.tk.cell.2
    cases B with
    | true =>
      go_wp2_with fail
      go_meet
      rw [D8.out]
      exact R10.out.set 5
    | false =>
      go_wp2_with fail
      go_meet
      rw [D8.out]
      exact R10.out
  case rest =>
  have R11 := Lib.hid hcut
  have HO8 : Hid (d8 l = 0 → o' = o7) := Lib.hid (fun h8 => HO.out (by rw [D8.out] at h8; cases B <;> simp_all))
  clear hcut R10 D8 HO
  obtain ⟨e8, h8⟩ : ∃ e, d8 l = e := ⟨_, rfl⟩
  rw [h8] at R11 HO8
  have HD8 := Lib.hid h8
  clear h8
  obtain ⟨t7, e7⟩ := τ7
  simp only at R11
  obtain ⟨wa, hwa⟩ : ∃ x, x = wc := ⟨_, rfl⟩
  subst hwa
  go_upto_region 39 with fail
  go_cut [160] from 151 to 160 (fun s160 wx => s160 = .bool ((e8 == 0) && !mayC f d acc o') ∧ RH w wx q h ⟨t7, e8⟩ f d acc o')
  case first =>
    have k1 := R11.out.rs.tk.cell.1
    simp only at k1
    obtain ⟨v, hv, hvh⟩ := R11.out.row
    obtain ⟨Av, cv, rfl⟩ := hv.form
    have x0 : wa.cell? ⟨h, 0, none⟩ = some (.int .i64 f) := blk_cell hvh 0
    have x1 : wa.cell? ⟨h, 1, none⟩ = some (.int .i64 d) := blk_cell hvh 1
    have x2 : wa.cell? ⟨h, 2, none⟩ = some (.slice Av acc.length cv) := blk_cell hvh 2
    have x3 : wa.cell? ⟨h, 3, none⟩ = some (.int .i64 o') := blk_cell hvh 3
    have HRA : Hid (RdN wa Av acc) := Lib.hid (by obtain ⟨A', c', e, -, -, h⟩ := hv.rd; injection e with e1; subst e1; exact h)
    have hchk := fun W h => Lib.hid (rMayC_any f d Av cv acc.length acc o' W h rfl HWF.out)
    clear hvh hv
    by_cases he : e8 = 0
    · rw [he] at k1
      have HE := Lib.hid he
      clear he
      go_wp2_with fail
      refine use_b (hchk _ HRA.out).out ?_
      intro w14 hb14
      have R12 := Lib.hid (R11.out.below hb14.out)
      clear hchk
      go_wp2_with fail
      go_meet
      exact ⟨by rw [HE.out]; simp, R12.out⟩
    · have e1 : (e8 == 0) = false := by simpa using he
      clear he
      go_wp2_with fail
      go_meet
      exact ⟨by rw [e1]; rfl, R11.out⟩
  case rest =>
  obtain ⟨rfl, hr⟩ := hcut
  have R12 := Lib.hid hr
  clear hr R11
  obtain ⟨B, hB⟩ : ∃ B, ((e8 == 0) && !mayC f d acc o') = B := ⟨_, rfl⟩
  have D9 : Hid (d9 l = if B then 15 else e8) := Lib.hid (by
    unfold d9; rw [HD8.out, ← hB]
    by_cases h1 : e8 = 0
    · rw [if_pos h1, D2.out, D3.out, HD6.out, HD7.out, h1]
      simp only
      rw [← HO8.out h1]
      unfold CodErr
      cases mayC f d acc o' <;> rfl
    · rw [if_neg h1]; simp [h1])
  rw [hB]
  have HO9 : Hid (d9 l = 0 → o' = o7) := Lib.hid (fun h9 => HO8.out (by rw [D9.out] at h9; cases B <;> simp_all))
  clear hB
  go_upto_if 160 with fail
  go_cut [] from 161 to 163 (fun wx => RH w wx q h ⟨t7, d9 l⟩ f d acc o')
  case first =>
    have k1 := R12.out.rs.tk.cell.1
    have k2 := R12.out.rs.tk.cell.2
    cases B with
    | true =>
      go_wp2_with fail
      go_meet
      rw [D9.out]
      exact R12.out.set 15
    | false =>
      go_wp2_with fail
      go_meet
      rw [D9.out]
      exact R12.out
  case rest =>
  have R13 := Lib.hid hcut
  clear hcut R12 D9 HO8
  obtain ⟨e9, h9⟩ : ∃ e, d9 l = e := ⟨_, rfl⟩
  rw [h9] at R13 HO9
  have HD9 := Lib.hid h9
  clear h9
  obtain ⟨wa, hwa⟩ : ∃ x, x = wc := ⟨_, rfl⟩
  subst hwa
  have k1 := R13.out.rs.tk.cell.1
  simp only at k1
  have t0 : wa.cell? ⟨w.heap.size, 0, none⟩ = some (.int .i64 0) := blk_cell R13.out.rs.z 0
  have t1 : wa.cell? ⟨w.heap.size, 1, none⟩ = some (.int .i64 0) := blk_cell R13.out.rs.z 1
  have t2 : wa.cell? ⟨w.heap.size, 2, none⟩ = some (.slice none 0 0) := blk_cell R13.out.rs.z 2
  have t3 : wa.cell? ⟨w.heap.size, 3, none⟩ = some (.int .i64 0) := blk_cell R13.out.rs.z 3
  have z0 : wa.frozen? ⟨w.heap.size, 0, none⟩ = false := blk_frozen R13.out.rs.z 0
  have z1 : wa.frozen? ⟨w.heap.size, 1, none⟩ = false := blk_frozen R13.out.rs.z 1
  have z2 : wa.frozen? ⟨w.heap.size, 2, none⟩ = false := blk_frozen R13.out.rs.z 2
  have z3 : wa.frozen? ⟨w.heap.size, 3, none⟩ = false := blk_frozen R13.out.rs.z 3
  by_cases he : e9 = 0
  · subst he
    obtain ⟨v, hv, hvh⟩ := R13.out.row
    obtain ⟨Av, cv, rfl⟩ := hv.form
    have ho := HO9.out rfl
    subst ho
    have x0 : wa.cell? ⟨h, 0, none⟩ = some (.int .i64 f) := blk_cell hvh 0
    have x1 : wa.cell? ⟨h, 1, none⟩ = some (.int .i64 d) := blk_cell hvh 1
    have x2 : wa.cell? ⟨h, 2, none⟩ = some (.slice Av acc.length cv) := blk_cell hvh 2
    have x3 : wa.cell? ⟨h, 3, none⟩ = some (.int .i64 o') := blk_cell hvh 3
    have HV := Lib.hid hv
    have HDE : Hid (decC l = (⟨f, d, acc, o'⟩, 0)) := Lib.hid (by
      have h1 := HLN.out
      unfold decC; rw [if_neg (by omega), HD9.out, if_pos rfl, D2.out, D3.out, HD6.out, HD7.out])
    clear hv hvh
    go_wp2
    have hkz := (((((Kp.refl (· = w.heap.size) wa).set (p := ⟨w.heap.size, 0, none⟩) rfl (.int .i64 f)).set (p := ⟨w.heap.size, 1, none⟩) rfl (.int .i64 d)).set (p := ⟨w.heap.size, 2, none⟩) rfl (.slice Av acc.length cv)).set (p := ⟨w.heap.size, 3, none⟩) rfl (.int .i64 o'))
    refine bodyPost_ret (v := .tuple #[.agg #[.int .i64 f, .int .i64 d, .slice Av acc.length cv, .int .i64 o'], .int .i64 0]) (by simp [results, Try.results46, go_sem, t0, t1, t2, t3]) rfl ?_
    rw [HDE.out]
    exact ⟨_, rfl, HV.out.kp hkz (fun g hg e => HV.out.ne R13.out.rs.z (by decide) (by rw [hg, e])), bl_kp R13.out.rs.tk.bl hkz (fun k hk => by omega)⟩
  · have HDE : Hid (decC l = (⟨0, 0, [], 0⟩, e9)) := Lib.hid (by
      have h1 := HLN.out
      unfold decC; rw [if_neg (by omega), HD9.out, if_neg he])
    have hne : (e9 != 0) = true := by rw [bne_iff_ne]; exact he
    have KQ : Hid (∀ W' : World, Kp (· = w.heap.size) wa W' → W'.cell? ⟨q, 1, none⟩ = some (.int .i64 e9)) := fun W' hk => hk.cell (by simp; omega) k1
    clear he
    go_wp2_with fail
    go_region_held3 (fun W' => W'.cell? ⟨q, 1, none⟩ = some (.int .i64 e9)) (first | (refine KQ.out _ ?_; (repeat (first | exact Kp.refl _ _ | apply Kp.drew | apply Kp.drewN | (refine Kp.set ?_ (by rfl) _))); done) | go_keep | fail) (fail)
    go_wp2
    have hkz := (((((Kp.refl (· = w.heap.size) wa).set (p := ⟨w.heap.size, 0, none⟩) rfl (.int .i64 0)).set (p := ⟨w.heap.size, 1, none⟩) rfl (.int .i64 0)).set (p := ⟨w.heap.size, 2, none⟩) rfl (.slice none 0 0)).set (p := ⟨w.heap.size, 3, none⟩) rfl (.int .i64 0))
    refine bodyPost_ret (v := .tuple #[.agg #[.int .i64 0, .int .i64 0, .slice none 0 0, .int .i64 0], .int .i64 e9]) (by simp [results, Try.results46, go_sem, t0, t1, t2, t3]) rfl ?_
    rw [HDE.out]
    exact ⟨_, rfl, OwN.nil _ _, bl_drewN (bl_kp R13.out.rs.tk.bl hkz (fun k hk => by omega)) _⟩
set_option maxRecDepth 20000 in
set_option maxHeartbeats 400000 in
theorem rdecode_long (v : Value) (l : List Int) (w : World) (hr : RdS w .u8 v l) (h : 4096 < l.length) :
    Calls Try.prog 46 #[v] w (DecPost w (decC l)) := by
  obtain ⟨A, c, rfl, -, -, hA⟩ := hr
  have hl := hA.1
  have hd := Lib.hid (show decC l = (⟨0, 0, [], 0⟩, 4) by unfold decC; rw [if_pos h])
  clear hA
  obtain ⟨n, hn⟩ : ∃ n, l.length = n := ⟨_, rfl⟩
  rw [hn] at h hl ⊢
  clear hn
  go_enter Try.func46, Try.ntmps46
  go_wp2
  refine bodyPost_ret (v := .tuple #[.agg #[.int .i64 0, .int .i64 0, .slice none 0 0, .int .i64 0], .int .i64 4]) (by simp [results, Try.results46, go_sem]) rfl ?_
  rw [hd.out]
  exact ⟨_, rfl, OwN.nil _ _, by repeat (first | exact Below.refl _ _ | apply bl_alloc | apply bl_drew | apply bl_drewN | (refine bl_tr' (by assumption) ?_))⟩
theorem rdecode_any (v : Value) (l : List Int) (w : World) (hr : RdS w .u8 v l) (hb : Byt l) :
    Calls Try.prog 46 #[v] w (DecPost w (decC l)) := by
  by_cases h : 4096 < l.length
  · exact rdecode_long v l w hr h
  · exact rdecode_short v l w hr hb (by omega)
end Go.Proofs.Ytehcimecmbcdfaa
