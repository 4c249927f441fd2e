/- Contracts: the program's reader of codes (pack.reader). -/
import Derived.Test.YtehcimecmbcdfaaXDecS
set_option linter.unusedSimpArgs false
set_option linter.unusedVariables false
namespace Go.Proofs.Ytehcimecmbcdfaa
open Go.RowKit

theorem Rdr.far {w w1 : World} {b q pos : Nat} {l : List Int} {cs : Array Value} {T : TypeId} {fr : Nat × Nat} (h : Rdr w b l pos) (hq : w.heap[q]? = some (.cells cs T fr)) (h1 : T ≠ 5) (h2 : T ≠ 87) (hk : Kp (· = q) w w1) : Rdr w1 b l pos := by
  obtain ⟨sv, base, k1, k2, k3⟩ := h
  refine ⟨sv, base, hk.blk (fun e => ?_) k1, k2.kp hk (fun x hx e => k2.ne hq h1 (by rw [hx, e])), k3⟩
  subst e
  rw [k1] at hq
  injection hq with hq
  injection hq with _ hq
  exact h2 hq.symm
def PRd (w : World) (q b : Nat) (σ : Tk) : Prop :=
  w.heap[q]? = some (.cells #[.pointer (some ⟨b, 0, none⟩), .int .i64 σ.e] 97 (0, 0)) ∧ ∃ l pos, Rdr w b l pos ∧ Byt l ∧ l.drop pos = σ.t
def PrS (q b k : Nat) : Prop := k = q ∨ k = b
def PrPost (w : World) (q b : Nat) (r : Int × Tk) (e : Ending) (w' : World) : Prop := e = .returned (.int .i64 r.1) ∧ PRd w' q b r.2 ∧ Kp (PrS q b) w w'
theorem PRd.below {w w1 : World} {q b : Nat} {σ : Tk} (h : PRd w q b σ) (hb : Below w.heap.size w w1) : PRd w1 q b σ := by
  obtain ⟨h1, l, pos, h2, h3⟩ := h
  exact ⟨blk_below h1 hb, l, pos, h2.below hb, h3⟩
theorem PRd.byt {w : World} {q b : Nat} {σ : Tk} (h : PRd w q b σ) : Byt σ.t := by
  obtain ⟨h1, l, pos, h2, h3, h4⟩ := h
  rw [← h4]; exact h3.drop _
theorem PRd.ne {w : World} {q b : Nat} {σ : Tk} (h : PRd w q b σ) : q ≠ b := by
  obtain ⟨h1, l, pos, ⟨sv, base, k1, -⟩, -⟩ := h
  intro e
  subst e
  rw [k1] at h1
  injection h1 with h1
  injection h1 with _ h1
  exact absurd h1 (by decide)
theorem PRd.set {w : World} {q b : Nat} {σ : Tk} (h : PRd w q b σ) (x : Int) : PRd (w.setCell ⟨q, 1, none⟩ (.int .i64 x)) q b ⟨σ.t, x⟩ := by
  obtain ⟨h1, l, pos, h2, h3, h4⟩ := h
  exact ⟨blk_set h1 1 _, l, pos, h2.far h1 (by decide) (by decide) ((Kp.refl (· = q) w).set rfl _), h3, h4⟩
theorem use_pr {P : Program} {f : FuncId} {args : Array Value} {w : World} {q b : Nat} {r : Int × Tk} {R : Ending → World → Prop} (h : Calls P f args w (PrPost w q b r))
    (k : ∀ w1, Hid (PRd w1 q b r.2) → Hid (Kp (PrS q b) w w1) → R (.returned (.int .i64 r.1)) w1) : Calls P f args w R :=
  h.mono fun e w1 ⟨he, h1, h2⟩ => by
    subst he
    exact k w1 h1 h2
set_option maxHeartbeats 400000 in
theorem prTake (q b : Nat) (σ : Tk) (n x : Int) (w : World) (h : PRd w q b σ) :
    Calls Try.prog 86 #[.pointer (some ⟨q, 0, none⟩), .int .i64 n, .int .i64 x] w (PrPost w q b (n, if σ.e = 0 then ⟨σ.t, x⟩ else σ)) := by
  have H := Lib.hid h
  have c1 : w.cell? ⟨q, 1, none⟩ = some (.int .i64 σ.e) := blk_cell h.1 1
  have z1 := blk_frozen h.1 1
  clear h
  obtain ⟨t, e⟩ := σ
  simp only at c1 ⊢
  by_cases he : e = 0
  · subst he
    go_enter Try.func86, Try.ntmps86
    go_wp2
    go_ret
    exact ⟨rfl, H.out.set x, (Kp.refl _ _).set (.inl rfl) _⟩
  · have e1 : (e == 0) = false := by simpa using he
    have hh := Lib.hid he
    clear he
    go_enter Try.func86, Try.ntmps86
    go_wp2
    go_ret
    exact ⟨rfl, H.out, Kp.refl _ _⟩
theorem octByteG (b : Nat) (l : List Int) (pos : Nat) (w : World) (h : Rdr w b l pos) (hby : Byt l) :
    Calls Try.prog 38 #[.pointer (some ⟨b, 0, none⟩)] w (RdPost w b l pos (byteOf (l.drop pos))) := by
  by_cases hp : pos < l.length
  · rw [drop_getD hp]
    exact octByte_yes b l pos w h hp hby
  · rw [List.drop_of_length_le (by omega)]
    refine (octByte_short b l pos w h (by omega)).mono fun e w1 ⟨he, hb⟩ => ⟨he, h.below hb, Kp.of_below hb⟩
set_option maxHeartbeats 400000 in
theorem prByte (q b : Nat) (σ : Tk) (w : World) (h : PRd w q b σ) :
    Calls Try.prog 71 #[.pointer (some ⟨q, 0, none⟩)] w (PrPost w q b (σ.rd byteOf)) := by
  have H := Lib.hid h
  have c0 : w.cell? ⟨q, 0, none⟩ = some (.pointer (some ⟨b, 0, none⟩)) := blk_cell h.1 0
  have c1 : w.cell? ⟨q, 1, none⟩ = some (.int .i64 σ.e) := blk_cell h.1 1
  clear h
  obtain ⟨t, e⟩ := σ
  simp only at c1 ⊢
  by_cases he : e = 0
  · subst he
    obtain ⟨h1, l, pos, h2, h3, h4⟩ := H.out
    simp only at h1 h4
    have H1 := Lib.hid h1
    have H2 := Lib.hid h2
    have H3 := Lib.hid h3
    have H4 := Lib.hid h4
    have hne := H.out.ne
    clear h1 h2 h3 h4
    go_enter Try.func71, Try.ntmps71
    go_wp2_with fail
    refine use_rd (octByteG b l pos _ H2.out H3.out) ?_
    intro w1 hk1 hr1
    have hp1 : Hid (PRd w1 q b ⟨l.drop (pos + (byteOf (l.drop pos)).2.1), 0⟩) := ⟨hk1.out.blk hne H1.out, l, _, hr1.out, H3.out, rfl⟩
    obtain ⟨⟨x, n, er⟩, hx⟩ : ∃ r, byteOf (l.drop pos) = r := ⟨_, rfl⟩
    rw [hx] at hp1 ⊢
    have HX := Lib.hid hx
    clear hx hr1
    simp only at hp1 ⊢
    go_wp2_with fail
    refine use_pr (prTake q b _ x er _ hp1.out) ?_
    intro w2 hp2 hk2
    go_wp2
    go_ret
    refine ⟨?_, ?_, (hk1.out.mono (fun k hk => .inr hk)).trans hk2.out⟩
    · unfold Tk.rd; simp only; rw [if_pos trivial, ← H4.out, HX.out]; rfl
    · have := hp2.out
      (try simp only at this)
      (try rw [if_pos trivial] at this)
      unfold Tk.rd; simp only; rw [if_pos trivial, ← H4.out, HX.out, List.drop_drop]
      exact this
  · have e1 : (e != 0) = true := by rw [bne_iff_ne]; exact he
    have hh := Lib.hid (show (⟨t, e⟩ : Tk).rd byteOf = (0, ⟨t, e⟩) by unfold Tk.rd; rw [if_neg he])
    clear he
    go_enter Try.func71, Try.ntmps71
    go_wp2
    go_ret
    exact ⟨by rw [hh.out]; rfl, by rw [hh.out]; exact H.out, Kp.refl _ _⟩
set_option maxHeartbeats 400000 in
theorem prNat (q b : Nat) (σ : Tk) (w : World) (h : PRd w q b σ) :
    Calls Try.prog 72 #[.pointer (some ⟨q, 0, none⟩)] w (PrPost w q b (σ.rd uintOf)) := by
  have H := Lib.hid h
  have c0 : w.cell? ⟨q, 0, none⟩ = some (.pointer (some ⟨b, 0, none⟩)) := blk_cell h.1 0
  have c1 : w.cell? ⟨q, 1, none⟩ = some (.int .i64 σ.e) := blk_cell h.1 1
  clear h
  obtain ⟨t, e⟩ := σ
  simp only at c1 ⊢
  by_cases he : e = 0
  · subst he
    obtain ⟨h1, l, pos, h2, h3, h4⟩ := H.out
    simp only at h1 h4
    have H1 := Lib.hid h1
    have H2 := Lib.hid h2
    have H3 := Lib.hid h3
    have H4 := Lib.hid h4
    have hne := H.out.ne
    clear h1 h2 h3 h4
    go_enter Try.func72, Try.ntmps72
    go_wp2_with fail
    refine use_rd (octRUint b l pos _ H2.out H3.out) ?_
    intro w1 hk1 hr1
    have hp1 : Hid (PRd w1 q b ⟨l.drop (pos + (uintOf (l.drop pos)).2.1), 0⟩) := ⟨hk1.out.blk hne H1.out, l, _, hr1.out, H3.out, rfl⟩
    obtain ⟨⟨x, n, er⟩, hx⟩ : ∃ r, uintOf (l.drop pos) = r := ⟨_, rfl⟩
    rw [hx] at hp1 ⊢
    have HX := Lib.hid hx
    clear hx hr1
    simp only at hp1 ⊢
    go_wp2_with fail
    refine use_pr (prTake q b _ x er _ hp1.out) ?_
    intro w2 hp2 hk2
    go_wp2
    go_ret
    refine ⟨?_, ?_, (hk1.out.mono (fun k hk => .inr hk)).trans hk2.out⟩
    · unfold Tk.rd; simp only; rw [if_pos trivial, ← H4.out, HX.out]; rfl
    · have := hp2.out
      (try simp only at this)
      (try rw [if_pos trivial] at this)
      unfold Tk.rd; simp only; rw [if_pos trivial, ← H4.out, HX.out, List.drop_drop]
      exact this
  · have e1 : (e != 0) = true := by rw [bne_iff_ne]; exact he
    have hh := Lib.hid (show (⟨t, e⟩ : Tk).rd uintOf = (0, ⟨t, e⟩) by unfold Tk.rd; rw [if_neg he])
    clear he
    go_enter Try.func72, Try.ntmps72
    go_wp2
    go_ret
    exact ⟨by rw [hh.out]; rfl, by rw [hh.out]; exact H.out, Kp.refl _ _⟩
set_option maxHeartbeats 400000 in
theorem prNum (q b : Nat) (σ : Tk) (w : World) (h : PRd w q b σ) :
    Calls Try.prog 87 #[.pointer (some ⟨q, 0, none⟩)] w (PrPost w q b (σ.rd sintOf)) := by
  have H := Lib.hid h
  have c0 : w.cell? ⟨q, 0, none⟩ = some (.pointer (some ⟨b, 0, none⟩)) := blk_cell h.1 0
  have c1 : w.cell? ⟨q, 1, none⟩ = some (.int .i64 σ.e) := blk_cell h.1 1
  clear h
  obtain ⟨t, e⟩ := σ
  simp only at c1 ⊢
  by_cases he : e = 0
  · subst he
    obtain ⟨h1, l, pos, h2, h3, h4⟩ := H.out
    simp only at h1 h4
    have H1 := Lib.hid h1
    have H2 := Lib.hid h2
    have H3 := Lib.hid h3
    have H4 := Lib.hid h4
    have hne := H.out.ne
    clear h1 h2 h3 h4
    go_enter Try.func87, Try.ntmps87
    go_wp2_with fail
    refine use_rd (octRInt b l pos _ H2.out H3.out) ?_
    intro w1 hk1 hr1
    have hp1 : Hid (PRd w1 q b ⟨l.drop (pos + (sintOf (l.drop pos)).2.1), 0⟩) := ⟨hk1.out.blk hne H1.out, l, _, hr1.out, H3.out, rfl⟩
    obtain ⟨⟨x, n, er⟩, hx⟩ : ∃ r, sintOf (l.drop pos) = r := ⟨_, rfl⟩
    rw [hx] at hp1 ⊢
    have HX := Lib.hid hx
    clear hx hr1
    simp only at hp1 ⊢
    go_wp2_with fail
    refine use_pr (prTake q b _ x er _ hp1.out) ?_
    intro w2 hp2 hk2
    go_wp2
    go_ret
    refine ⟨?_, ?_, (hk1.out.mono (fun k hk => .inr hk)).trans hk2.out⟩
    · unfold Tk.rd; simp only; rw [if_pos trivial, ← H4.out, HX.out]; rfl
    · have := hp2.out
      (try simp only at this)
      (try rw [if_pos trivial] at this)
      unfold Tk.rd; simp only; rw [if_pos trivial, ← H4.out, HX.out, List.drop_drop]
      exact this
  · have e1 : (e != 0) = true := by rw [bne_iff_ne]; exact he
    have hh := Lib.hid (show (⟨t, e⟩ : Tk).rd sintOf = (0, ⟨t, e⟩) by unfold Tk.rd; rw [if_neg he])
    clear he
    go_enter Try.func87, Try.ntmps87
    go_wp2
    go_ret
    exact ⟨by rw [hh.out]; rfl, by rw [hh.out]; exact H.out, Kp.refl _ _⟩
set_option maxHeartbeats 400000 in
theorem prFail (q b : Nat) (σ : Tk) (is : Bool) (x : Int) (w : World) (h : PRd w q b σ) :
    Calls Try.prog 70 #[.pointer (some ⟨q, 0, none⟩), .bool is, .int .i64 x] w fun e w' => e = .returned (.tuple #[]) ∧ PRd w' q b (σ.fail is x) ∧ Kp (PrS q b) w w' := by
  have H := Lib.hid h
  have c1 : w.cell? ⟨q, 1, none⟩ = some (.int .i64 σ.e) := blk_cell h.1 1
  have z1 := blk_frozen h.1 1
  clear h
  obtain ⟨t, e⟩ := σ
  simp only at c1 ⊢
  cases is with
  | false =>
    go_enter Try.func70, Try.ntmps70
    go_wp2
    go_end0
    exact ⟨rfl, H.out, Kp.refl _ _⟩
  | true =>
    by_cases he : e = 0
    · subst he
      go_enter Try.func70, Try.ntmps70
      go_wp2
      go_end0
      exact ⟨rfl, H.out.set x, (Kp.refl _ _).set (.inl rfl) _⟩
    · have e1 : (e == 0) = false := by simpa using he
      have hh := Lib.hid (show (⟨t, e⟩ : Tk).fail true x = ⟨t, e⟩ by unfold Tk.fail; rw [if_neg (fun h => he h.2)])
      clear he
      go_enter Try.func70, Try.ntmps70
      go_wp2
      go_end0
      exact ⟨rfl, by rw [hh.out]; exact H.out, Kp.refl _ _⟩
end Go.Proofs.Ytehcimecmbcdfaa
