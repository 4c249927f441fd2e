/- Contract: the code of bytes (pack.Decode). -/
import Derived.Test.YtehcimecmbcdfaaXDecQ
import Derived.Test.YtehcimecmbcdfaaXHeldN
import Derived.Test.YtehcimecmbcdfaaXLaw01
import Derived.Deep.RegionLaw
set_option linter.unusedSimpArgs false
set_option linter.unusedVariables false
namespace Go.Proofs.Ytehcimecmbcdfaa
open Go.RowKit

def DecPost (w : World) (r : Cod × Int) (e : Ending) (w' : World) : Prop :=
  ∃ v, e = .returned (.tuple #[.agg #[.int .i64 r.1.f, .int .i64 r.1.d, v, .int .i64 r.1.out], .int .i64 r.2]) ∧ OwN w' w.heap.size v r.1.l ∧ Below w.heap.size w w'
set_option maxHeartbeats 400000 in
theorem decode_long (v : Value) (l : List Int) (w : World) (hr : RdS w .u8 v l) (h : 4096 < l.length) :
    Calls Try.prog 45 #[v] w (DecPost w (decC l)) := by
  obtain ⟨A, c, rfl, -, -, hA⟩ := hr
  have hl := hA.1
  have hd := Lib.hid (show decC l = (⟨0, 0, [], 0⟩, 4) by unfold decC; rw [if_pos h])
  clear hA
  obtain ⟨n, hn⟩ : ∃ n, l.length = n := ⟨_, rfl⟩
  rw [hn] at h hl ⊢
  clear hn
  go_enter Try.func45, Try.ntmps45
  go_wp2
  refine bodyPost_ret (v := .tuple #[.agg #[.int .i64 0, .int .i64 0, .slice none 0 0, .int .i64 0], .int .i64 4]) (by simp [results, Try.results45, go_sem]) rfl ?_
  rw [hd.out]
  exact ⟨_, rfl, OwN.nil _ _, by repeat (first | exact Below.refl _ _ | apply bl_alloc | apply bl_drew | apply bl_drewN | (refine bl_tr' (by assumption) ?_))⟩
theorem use_prI {P : Program} {f : FuncId} {args : Array Value} {w : World} {q b : Nat} {r : Ins × Tk} {R : Ending → World → Prop} (h : Calls P f args w (PrIPost w q b r))
    (k : ∀ w1, Hid (PRd w1 q b r.2) → Hid (Kp (PrS q b) w w1) → R (.returned r.1.val) w1) : Calls P f args w R :=
  h.mono fun e w1 ⟨he, h1, h2⟩ => by
    subst he
    exact k w1 h1 h2
theorem OwN.pr {w w1 : World} {base q b : Nat} {v : Value} {l : List Ins} {σ : Tk} (h : OwN w base v l) (hp : PRd w q b σ) (hk : Kp (PrS q b) w w1) : OwN w1 base v l := by
  refine h.kp hk fun g hg e => ?_
  rcases e with rfl | rfl
  · exact h.ne hp.1 (by decide) hg
  · obtain ⟨_, _, _, ⟨sv, base', k1, _⟩, _⟩ := hp
    exact h.ne k1 (by decide) hg
theorem blk_pr {w w1 : World} {q b g : Nat} {σ : Tk} {cs : Array Value} {T : TypeId} {fr : Nat × Nat} (hg : w.heap[g]? = some (.cells cs T fr)) (h1 : T ≠ 97) (h2 : T ≠ 87) (hp : PRd w q b σ) (hk : Kp (PrS q b) w w1) : w1.heap[g]? = some (.cells cs T fr) := by
  refine hk.blk (fun e => ?_) hg
  rcases e with rfl | rfl
  · have := hp.1
    rw [hg] at this
    injection this with this
    injection this with _ this
    exact h1 this
  · obtain ⟨_, _, _, ⟨sv, base', k1, _⟩, _⟩ := hp
    rw [hg] at k1
    injection k1 with k1
    injection k1 with _ k1
    exact h2 k1
theorem bl_pr {w w0 w1 : World} {q b : Nat} (h : Below w0.heap.size w0 w) (hk : Kp (PrS q b) w w1) (hq : w0.heap.size ≤ q) (hb : w0.heap.size ≤ b) : Below w0.heap.size w0 w1 :=
  bl_kp h hk (fun k hk => by rcases hk with rfl | rfl <;> assumption)
theorem step_fun {P : Program} {ops : Array Oper} {o : Oper} {a : Act} {K : Act → World → Prop} {Q : Exit → Act → World → Prop} {E : Prop} {W : World} (hgd : o.guard = none) (f : FuncId) (fn : Func) (hfn : P.funcs[f]? = some fn) (hn : (fn.name == "runtime.NumGoroutine") = false) (hb : fn.body.isNone = false)
    (us : Array Operand) (ts : Array TypeId) (ho : o.op = .call { callee := .value (.func f), args := us, argTypes := ts }) (args : List Value) (hargs : us.toList.map a.eval = args) (R : Value → World → Prop)
    (hc : Calls P f args.toArray W (fun e w1 => ∃ v, e = .returned v ∧ R v w1)) (h : ∀ v w1, R v w1 → K (a.put o.dst v) w1) :
    if Region.wanted o (yielded ops a.tmps) = true then Oper.wp P o a W K Q else E := by
  have hw : Region.wanted o (yielded ops a.tmps) = true := by simp [Region.wanted, hgd]
  rw [if_pos hw]
  have ha : us.map a.eval = args.toArray := by rw [← hargs, ← Array.toList_map]
  unfold Oper.wp
  have hrun : (execOp a.eval o).run P W = .ok (.enter f args.toArray) W := by
    unfold execOp
    have hn' : fn.name ≠ "runtime.NumGoroutine" := by simpa using hn
    have hb' : ¬ fn.body = none := by intro e; rw [e] at hb; simp at hb
    simp [ho, resolve, invoke, Act.eval, Deferred.ofValue, callFunc, Result.andThen, hfn, hn', hb', ha]
  rw [hrun, Oper.upon_enter]
  refine hc.mono fun e w2 hh => ?_
  obtain ⟨v, rfl, hr⟩ := hh
  exact h v w2 hr
theorem step_inst {ops : Array Oper} {o : Oper} {a : Act} {K : Act → World → Prop} {Q : Exit → Act → World → Prop} {E : Prop} {W : World} (hgd : o.guard = none)
    (us : Array Operand) (ts : Array TypeId) (ho : o.op = .call { callee := .value (.func 73), args := us, argTypes := ts }) (q b : Nat) (i : Int) {x0 x1 x2 x3 x4 x5 : Int} {τ : Tk} (hargs : us.toList.map a.eval = [.pointer (some ⟨q, 0, none⟩), .int .i64 i])
    (hc : Calls Try.prog 73 #[.pointer (some ⟨q, 0, none⟩), .int .i64 i] W (PrIPost W q b (⟨x0, x1, x2, x3, x4, x5⟩, τ)))
    (h : ∀ w1, Hid (PRd w1 q b τ) → Hid (Kp (PrS q b) W w1) → K (a.put o.dst (.agg #[.int .i64 x0, .int .i64 x1, .int .i64 x2, .int .i64 x3, .int .i64 x4, .int .i64 x5])) w1) :
    if Region.wanted o (yielded ops a.tmps) = true then Oper.wp Try.prog o a W K Q else E :=
  step_fun hgd 73 Try.f73 Try.func73 (by kernel_rfl) (by kernel_rfl) us ts ho _ hargs (fun v w1 => v = .agg #[.int .i64 x0, .int .i64 x1, .int .i64 x2, .int .i64 x3, .int .i64 x4, .int .i64 x5] ∧ PRd w1 q b τ ∧ Kp (PrS q b) W w1)
    (hc.mono fun e w1 ⟨he, h1, h2⟩ => ⟨_, he, rfl, h1, h2⟩) (fun v w1 ⟨he, h1, h2⟩ => by subst he; exact h w1 h1 h2)
theorem use_prI2 {P : Program} {f : FuncId} {args : Array Value} {w : World} {q b : Nat} {o a c d k s : Int} {τ : Tk} {R : Ending → World → Prop} (h : Calls P f args w (PrIPost w q b (⟨o, a, c, d, k, s⟩, τ)))
    (kk : ∀ w1, Hid (PRd w1 q b τ) → Hid (Kp (PrS q b) w w1) → R (.returned (.agg #[.int .i64 o, .int .i64 a, .int .i64 c, .int .i64 d, .int .i64 k, .int .i64 s])) w1) : Calls P f args w R :=
  h.mono fun e w1 ⟨he, h1, h2⟩ => by
    subst he
    exact kk w1 h1 h2
theorem blk_grownN {w w1 : World} {g : Nat} {cs : Array Value} {T : TypeId} {fr : Nat × Nat} {base : Nat} {v : Value} {l : List Ins} (hb : w.heap[g]? = some (.cells cs T fr)) (ho : OwN w base v l) (hT : T ≠ 92) (hg : w.grownBy w1 v.ownBlock) : w1.heap[g]? = some (.cells cs T fr) :=
  (hg.block g (blk_lt hb) (fun e => ho.ne hb hT e.symm)).trans hb
theorem PRd.grownN {w w1 : World} {q b base : Nat} {σ : Tk} {v : Value} {l : List Ins} (hp : PRd w q b σ) (ho : OwN w base v l) (hg : w.grownBy w1 v.ownBlock) : PRd w1 q b σ := by
  obtain ⟨h1, l', pos, ⟨sv, base', k1, k2, k3⟩, h3, h4⟩ := hp
  refine ⟨blk_grownN h1 ho (by decide) hg, l', pos, ⟨sv, base', blk_grownN k1 ho (by decide) hg, k2.kp (S := fun g => v.ownBlock = some g) ⟨hg.os, hg.tape, hg.output, hg.size, fun i hi hn => hg.block i hi (fun e => hn e.symm)⟩ (fun g hg' e => ?_), k3⟩, h3, h4⟩
  obtain ⟨cs, hcs⟩ := ho.heap e
  exact k2.ne hcs (by decide) hg'
def DecRel (w : World) (q b h : Nat) (σ : Tk) (m f d : Int) (x : Value) (wr : World) : Prop :=
  ∃ k : Nat, (k : Int) ≤ m ∧ x = .int .i64 k ∧ (∀ j, j < k → (decN σ j).2.e = 0) ∧ PRd wr q b (decN σ k).2 ∧ (∃ v, OwN wr w.heap.size v (decN σ k).1 ∧ wr.heap[h]? = some (.cells #[.int .i64 f, .int .i64 d, v, .int .i64 0] 64 (0, 0))) ∧
    wr.heap[w.heap.size]? = some (.cells #[.int .i64 0, .int .i64 0, .slice none 0 0, .int .i64 0] 64 (0, 0)) ∧ Below w.heap.size w wr
end Go.Proofs.Ytehcimecmbcdfaa
