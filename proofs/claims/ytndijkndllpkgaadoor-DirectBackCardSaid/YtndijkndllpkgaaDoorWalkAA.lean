import Derived.Test.YtndijkndllpkgaaDoorWInv
import Derived.Test.YtndijkndllpkgaaDoorProg
import Derived.WalkKit
import Derived.Below
import Derived.KernelRfl
import Derived.RowKit
import Derived.RowKit3
import Derived.OneCell
import Derived.Deep.MidRow
import Derived.Laws.IdiomCopy
import Derived.Lib.Hide
import Derived.Deep.DeepMust
import Derived.Test.YtndijkndllpkgaaDoorWWords
import Derived.Test.YtndijkndllpkgaaDoorWLast
import Derived.Test.YtndijkndllpkgaaDoorWTab
import Derived.Test.YtndijkndllpkgaaDoorWEqStruct
import Derived.Deep.Draws
import Derived.Deep.AppendLies
import Derived.Maps.AppendAt
import Derived.OwnWalk
import Derived.Laws.BytesArg
import Derived.Laws.MakeOwn
import Derived.Laws.OwnMore
import Derived.Deep.OwnRows
import Derived.Tactics
import Derived.Lib.ConvBytes
import Derived.Laws.Slices
import Derived.Deep.LoopGhost
import Derived.Deep.QuietTactic
import Derived.BigQuiet
import Derived.WideLaws
import Derived.Deep.DeepCutAuto
import Derived.Deep.CutBlock
import Derived.Deep.RegionHeld3
import Derived.Laws.Rows
import Derived.Lib.AppendStr
import Derived.ArgAppend
import Derived.OrdersHeld
import Derived.Laws.BitsLemmas
import Derived.Test.YtndijkndllpkgaaDoorTab
import Derived.Maps.RangeRun
import Derived.Laws.AppendOwn
import Derived.Deep.Onto
/- Operands and guards of a region of open order: four laws of the print's words, taken alone. -/
namespace Go.Proofs.YtndijkndllpkgaaDoorW.PrintLast
section
variable {ops : Array Oper} {a : Act} {o og : Oper} {g : Nat} {t : Tmp} {u : Bool}
/-- An operand out of its slot. -/
theorem eval_of {v : Value} (h : a.tmps[t]? = some v) : a.eval (.tmp t) = v := by simp [Act.eval, h]
/-- A guarded operation whose guard has yielded what it wants. -/
theorem wanted_on (hg : o.guard = some (g, u)) (ho : ops[g]? = some og) (hd : og.dst = some t) (hv : a.tmps[t]? = some (.bool u)) : Region.wanted o (yielded ops a.tmps) = true := by
  simp [Region.wanted, hg, yielded, ho, hd, hv]
/-- The other: it isn't carried out. -/
theorem wanted_off (hg : o.guard = some (g, u)) (ho : ops[g]? = some og) (hd : og.dst = some t) (hv : a.tmps[t]? = some (.bool (!u))) : Region.wanted o (yielded ops a.tmps) = false := by
  cases u <;> simp_all [Region.wanted, yielded]
end
end Go.Proofs.YtndijkndllpkgaaDoorW.PrintLast
namespace Go.Proofs.YtndijkndllpkgaaDoorW.PrintWords
theorem Reps.front {α : Type} {R : α → List Value → Prop} {size : Nat} {ps : List α} {cs c all : List Value} {p : α} (hp : R p c) (hc : c.length = size) (h : Reps R size ps cs) (ha : c ++ cs = all) : Reps R size (p :: ps) all := by
  subst ha
  refine ⟨by rw [List.length_append, hc, h.1, List.length_cons, Nat.succ_mul, Nat.add_comm], fun j q hq => ?_⟩
  cases j with
  | zero =>
    simp only [List.getElem?_cons_zero, Option.some.injEq] at hq
    subst hq
    rw [Nat.zero_mul, List.drop_zero, List.take_append_of_le_length (by omega), List.take_of_length_le (by omega)]
    exact hp
  | succ j =>
    simp only [List.getElem?_cons_succ] at hq
    have h1 := h.2 j q hq
    rw [Nat.succ_mul, List.drop_append, List.drop_of_length_le (by rw [hc]; exact Nat.le_add_left _ _), List.nil_append, hc, Nat.add_sub_cancel]
    exact h1
end Go.Proofs.YtndijkndllpkgaaDoorW.PrintWords
namespace Go.Proofs.YtndijkndllpkgaaDoorW.PrintMore
theorem max2_int (k k' : IntKind) (x y : Int) : Builtin.max2 (.int k x) (.int k' y) = pure (.int k (if x < y then y else x)) := by simp only [Builtin.max2, gt_iff_lt]
theorem min2_int (k k' : IntKind) (x y : Int) : Builtin.min2 (.int k x) (.int k' y) = pure (.int k (if y < x then y else x)) := by simp only [Builtin.min2]
end Go.Proofs.YtndijkndllpkgaaDoorW.PrintMore
namespace Go.Proofs.YtndijkndllpkgaaDoorW.PrintWords.Kd
open Go.RowKit
section
variable {α : Type} {d : Kd α} {e base : Nat} {ok : Nat → Prop} {W w w1 : World} {v : Value} {xs : List α}
theorem R_tight (hE : d.E = []) (h : d.R e w base ok v xs) : d.R e w base (fun k => some k = v.ownBlock) v xs := by
  obtain ⟨h0, inner, ho, hr⟩ := h
  refine ⟨fun k hk => hk.symm, inner, ho, hr.imp_ (fun p c hp => d.M_mono (fun k hk => ?_) (d.M_bound hp))⟩
  obtain ⟨_, _, _, q, hq, _⟩ := hk
  rw [hE] at hq
  cases hq
theorem R_grown2 (h : d.R e W base ok v xs) (hE : d.E = []) {row : Option Nat} (hg : W.grownBy w1 row) (hne : ∀ k, row = some k → some k ≠ v.ownBlock) : d.R e w1 base ok v xs :=
  R_mono (R_grown (R_tight hE h) hg (fun k hk e_ => hne k e_.symm hk)) (fun k hk => h.1 k hk.symm)
end
end Go.Proofs.YtndijkndllpkgaaDoorW.PrintWords.Kd
/- Walks by explicit steps: a frame that is known by its slots, one law an operation, a region of open order by one relation. -/
namespace Go.Proofs.YtndijkndllpkgaaDoor.X
open Go.RowKit Go.Proofs.YtndijkndllpkgaaDoorW.PrintWords Go.Proofs.YtndijkndllpkgaaDoorW.PrintLast
set_option linter.unusedVariables false
set_option linter.unusedSimpArgs false

/-! ### frames -/
def look : List (Nat × Value) → Nat → Option Value
  | [], _ => none
  | e :: r, t => bif Nat.beq e.1 t then some e.2 else look r t
/-- The frame's slots, as far as they are told. -/
structure Fr (a : Act) (N : Nat) (L : List (Nat × Value)) : Prop where
  size : a.tmps.size = N
  nodef : a.defers = []
  get : ∀ t v, look L t = some v → a.tmps[t]? = some v

section
variable {P : Program} {ops : Array Oper} {Q : Exit → Act → World → Prop} {a : Act} {w w1 : World} {rest : List Oper} {o : Oper} {N d t : Nat} {L L' : List (Nat × Value)} {v : Value}

theorem Fr.ev (h : Fr a N L) (hl : look L t = some v) : a.eval (.tmp t) = v := by
  have := h.get t v hl
  simp [Act.eval, this]
theorem ev_c : a.eval (.const v) = v := rfl
theorem ev_f {f : FuncId} : a.eval (.func f) = .func (.func f) #[] #[] := rfl
theorem Fr.put (h : Fr a N L) (hd : Nat.blt d N = true) (v : Value) : Fr (a.put (some d) v) N ((d, v) :: L) := by
  have hd' : d < a.tmps.size := by rw [h.size]; exact Nat.le_of_ble_eq_true hd
  refine ⟨by simp [Act.put, h.size], h.nodef, fun t u hu => ?_⟩
  unfold look at hu
  cases hb : Nat.beq d t with
  | true =>
    have : d = t := Nat.eq_of_beq_eq_true hb
    subst this
    simp only [hb, cond_true] at hu
    simp [Act.put, hd', ← hu]
  | false =>
    have : d ≠ t := Nat.ne_of_beq_eq_false hb
    simp only [hb, cond_false] at hu
    simp [Act.put, Array.getElem?_setIfInBounds_ne this, h.get t u hu]
theorem Fr.put_none (h : Fr a N L) (v : Value) : Fr (a.put none v) N L := h
def Keeps (L : List (Nat × Value)) : List (Nat × Value) → Prop
  | [] => True
  | e :: r => look L e.1 = some e.2 ∧ Keeps L r
theorem look_keeps : ∀ {L' : List (Nat × Value)}, Keeps L L' → ∀ t v, look L' t = some v → look L t = some v
  | [], _, _, _, h => by cases h
  | e :: r, hk, t, v, h => by
    unfold look at h
    cases hb : Nat.beq e.1 t with
    | true =>
      rw [hb, cond_true] at h
      have : e.1 = t := Nat.eq_of_beq_eq_true hb
      rw [← this, ← h]
      exact hk.1
    | false =>
      rw [hb, cond_false] at h
      exact look_keeps hk.2 t v h
theorem Fr.pick (h : Fr a N L) (hk : Keeps L L') : Fr a N L' := ⟨h.size, h.nodef, fun t v hl => h.get t v (look_keeps hk t v hl)⟩
/-- The frame at a function's beginning. -/
theorem Fr.start (args : Array Value) (n N : Nat) (hN : args.size + (n - args.size) = N) (hL : ∀ t v, look L t = some v → args[t]? = some v) : Fr { tmps := args ++ Array.replicate (n - args.size) undef, defers := [] } N L := by
  refine ⟨by simp [hN], rfl, fun t v hl => ?_⟩
  have h := hL t v hl
  have hlt := (Array.getElem?_eq_some_iff.1 h).1
  show (args ++ Array.replicate (n - args.size) undef)[t]? = some v
  rw [Array.getElem?_append_left hlt, h]
def number : Nat → List Value → List (Nat × Value)
  | _, [] => []
  | n, v :: r => (n, v) :: number (n + 1) r
theorem look_number : ∀ (l : List Value) (n t : Nat) (v : Value), look (number n l) t = some v → n ≤ t ∧ l[t - n]? = some v
  | [], _, _, _, h => by cases h
  | u :: r, n, t, v, h => by
    unfold number look at h
    cases hb : Nat.beq n t with
    | true =>
      have : n = t := Nat.eq_of_beq_eq_true hb
      subst this
      simp only [hb, cond_true] at h
      exact ⟨Nat.le_refl _, by simpa using h⟩
    | false =>
      have hne : n ≠ t := Nat.ne_of_beq_eq_false hb
      simp only [hb, cond_false] at h
      obtain ⟨h1, h2⟩ := look_number r (n + 1) t v h
      refine ⟨by omega, ?_⟩
      rw [show t - n = (t - (n + 1)) + 1 by omega, List.getElem?_cons_succ]
      exact h2
theorem calls_x {f : FuncId} {fn : Func} {c : Code} {args : List Value} {R : Ending → World → Prop} (hf : P.funcs[f]? = some fn) (hb : fn.body = some c) (n N : Nat) (hn : fn.ntmps = n) (hN : args.length + (n - args.length) = N)
    (h : ∀ a, Fr a N (number 0 args) → c.wp P (bodyPost P fn R) a w) : Calls P f args.toArray w R := by
  refine calls_of_wp hf hb (h _ ?_)
  rw [hn]
  refine Fr.start args.toArray n N (by simpa using hN) (fun t v hl => ?_)
  have := (look_number args 0 t v hl).2
  simpa using this

theorem lk {T b : Bool} (h : look L t = some (.bool T)) (hT : T = b) : look L t = some (.bool b) := hT ▸ h
theorem cond_t {α : Type} {T : Bool} {x y : Option α} {r : α} (hT : T = true) (h : (bif T then x else y) = some r) : x = some r := by rw [hT] at h; exact h
theorem cond_f {α : Type} {T : Bool} {x y : Option α} {r : α} (hT : T = false) (h : (bif T then x else y) = some r) : y = some r := by rw [hT] at h; exact h
theorem below_drawn {n : Nat} {w' : World} (h : w' = w.drewN n) : Below w.heap.size w w' := by subst h; exact pw_below_drewN (Below.refl _ _) n
theorem range_below {b o : Nat} {cs : List Value} (h : w.rangeAt b o cs) (hb : Below w.heap.size w w1) : w1.rangeAt b o cs := fun j v hv => (hb.cell (World.block_lt_of_cell? w _ (h j v hv))).trans (h j v hv)
/-! ### steps in a plain region -/
theorem run_guard (hg : o.guard = none) : Region.wanted o (yielded ops a.tmps) = true := by simp [Region.wanted, hg]
theorem sv (hF : Fr a N L) (hw : Region.wanted o (yielded ops a.tmps) = true) (hd : o.dst = some d) (hN : Nat.blt d N = true) (hrun : (execOp a.eval o).run P w = .ok (.value v) w1)
    (h : ∀ a', Fr a' N ((d, v) :: L) → wpList P ops Q rest a' w1) : wpList P ops Q (o :: rest) a w := by
  refine wpList_step fun K hK => ?_
  rw [if_pos hw]
  unfold Oper.wp
  rw [hrun, Oper.upon_value, hd]
  exact hK _ _ (h _ (hF.put hN v))
theorem ss (hF : Fr a N L) (hw : Region.wanted o (yielded ops a.tmps) = true) (hd : o.dst = none) (hrun : (execOp a.eval o).run P w = .ok .skip w1)
    (h : wpList P ops Q rest a w1) : wpList P ops Q (o :: rest) a w := by
  refine wpList_step fun K hK => ?_
  rw [if_pos hw]
  unfold Oper.wp
  rw [hrun, Oper.upon_skip, hd]
  exact hK _ _ h
/-- An operation whose guard is off. -/
theorem so (hF : Fr a N L) (hw : Region.wanted o (yielded ops a.tmps) = false) (hd : o.dst = some d) (hN : Nat.blt d N = true)
    (h : ∀ a', Fr a' N ((d, undef) :: L) → wpList P ops Q rest a' w) : wpList P ops Q (o :: rest) a w := by
  refine wpList_step fun K hK => ?_
  rw [hw, if_neg (by simp), hd]
  exact hK _ _ (h _ (hF.put hN undef))
theorem so_none (hF : Fr a N L) (hw : Region.wanted o (yielded ops a.tmps) = false) (hd : o.dst = none)
    (h : wpList P ops Q rest a w) : wpList P ops Q (o :: rest) a w := by
  refine wpList_step fun K hK => ?_
  rw [hw, if_neg (by simp), hd]
  exact hK _ _ h
/-- A call that returns. -/
theorem sc {f : FuncId} {args : Array Value} (hF : Fr a N L) (hw : Region.wanted o (yielded ops a.tmps) = true) (hd : o.dst = some d) (hN : Nat.blt d N = true) (hrun : (execOp a.eval o).run P w = .ok (.enter f args) w)
    (h : Calls P f args w fun e w' => ∃ v, e = .returned v ∧ ∀ a', Fr a' N ((d, v) :: L) → wpList P ops Q rest a' w') : wpList P ops Q (o :: rest) a w := by
  refine wpList_step fun K hK => ?_
  rw [if_pos hw]
  unfold Oper.wp
  rw [hrun, Oper.upon_enter]
  refine h.mono fun e w'' hh => ?_
  obtain ⟨v, rfl, hk⟩ := hh
  show K (a.put o.dst v) w''
  rw [hd]
  exact hK _ _ (hk _ (hF.put hN v))
/-- A new block. -/
theorem s_new {cs : Array Value} {T : TypeId} (hF : Fr a N L) (hw : Region.wanted o (yielded ops a.tmps) = true) (hd : o.dst = some d) (hN : Nat.blt d N = true) (hrun : (execOp a.eval o).run P w = .ok (.value (.pointer (some ⟨w.heap.size, 0, none⟩))) (w.alloc (.cells cs T)))
    (h : ∀ a' w' b, w'.heap[b]? = some (.cells cs T (0, 0)) → w.heap.size ≤ b → b < w'.heap.size → Below w.heap.size w w' → Fr a' N ((d, .pointer (some ⟨b, 0, none⟩)) :: L) → wpList P ops Q rest a' w') : wpList P ops Q (o :: rest) a w :=
  sv hF hw hd hN hrun (fun a' hF' => h a' _ _ (blk_new w _) (Nat.le_refl _) (by simp) ((Below.refl _ _).alloc (Nat.le_refl _) _) hF')
theorem sc_none {f : FuncId} {args : Array Value} (hF : Fr a N L) (hw : Region.wanted o (yielded ops a.tmps) = true) (hd : o.dst = none) (hrun : (execOp a.eval o).run P w = .ok (.enter f args) w)
    (h : Calls P f args w fun e w' => ∃ v, e = .returned v ∧ wpList P ops Q rest a w') : wpList P ops Q (o :: rest) a w := by
  refine wpList_step fun K hK => ?_
  rw [if_pos hw]
  unfold Oper.wp
  rw [hrun, Oper.upon_enter]
  refine h.mono fun e w'' hh => ?_
  obtain ⟨v, rfl, hk⟩ := hh
  show K (a.put o.dst v) w''
  rw [hd]
  exact hK _ _ hk
/-- A guard that has yielded what it wants, or not. -/
theorem g_on {og : Oper} {g : Nat} {u : Bool} (hF : Fr a N L) (hg : o.guard = some (g, u)) (ho : ops[g]? = some og) (hd : og.dst = some t) (hl : look L t = some (.bool u)) : Region.wanted o (yielded ops a.tmps) = true := by
  have hv := hF.get _ _ hl
  simp [Region.wanted, hg, yielded, ho, hd, hv]
theorem g_off {og : Oper} {g : Nat} {u : Bool} (hF : Fr a N L) (hg : o.guard = some (g, u)) (ho : ops[g]? = some og) (hd : og.dst = some t) (hl : look L t = some (.bool (!u))) : Region.wanted o (yielded ops a.tmps) = false := by
  have hv := hF.get _ _ hl
  cases u <;> simp_all [Region.wanted, yielded]

/-- A guard that was not carried out itself. -/
theorem g_none {og : Oper} {g : Nat} {u : Bool} (hF : Fr a N L) (hg : o.guard = some (g, u)) (ho : ops[g]? = some og) (hd : og.dst = some t) (hl : look L t = some undef) : Region.wanted o (yielded ops a.tmps) = false := by
  have hv := hF.get _ _ hl
  cases u <;> simp_all [Region.wanted, yielded, undef]
theorem wanted_none {og : Oper} {g : Nat} {u : Bool} (hg : o.guard = some (g, u)) (ho : ops[g]? = some og) (hd : og.dst = some t) (hv : a.tmps[t]? = some undef) : Region.wanted o (yielded ops a.tmps) = false := by
  cases u <;> simp_all [Region.wanted, yielded, undef]
/-! ### control -/
theorem c_end (hF : Fr a N L) (h : Q .normal a w) : wpList P ops Q [] a w := h
def rvar (tmps : Array Value) : ResultVar → Sem Value
  | .tmp t => pure (tmps.getD t undef)
  | .cell a t => do loadVar t (← asAddr (tmps.getD a undef))
theorem rv_t (hF : Fr a N L) (hl : look L t = some v) : (rvar a.tmps (.tmp t)).run P w = .ok v w := by
  have := hF.get _ _ hl
  simp [rvar, this]
theorem rv_c {ad : Addr} {T : TypeId} (hF : Fr a N L) (hl : look L t = some (.pointer (some ad))) (h : (Instr.loadAt T (.pointer (some ad))).run P w = .ok v w) : (rvar a.tmps (.cell t T)).run P w = .ok v w := by
  have := hF.get _ _ hl
  simpa [rvar, this, asAddr, Instr.loadAt, Instr.sureAddr] using h
theorem andThen_assoc' {α β γ : Type} (r : Result α) (f : α → World → Result β) (g : β → World → Result γ) : (r.andThen f).andThen g = r.andThen fun a w => (f a w).andThen g := by cases r <;> rfl
section
variable {fn : Func} {R : Ending → World → Prop} {x1 x2 x3 x4 : ResultVar} {v1 v2 v3 v4 : Value}
theorem results0 (hr : fn.results = #[]) : (results fn a.tmps).run P w = .ok (.tuple #[]) w := results_none hr _ _ _
theorem results1 (hr : fn.results = #[x1]) (h1 : (rvar a.tmps x1).run P w = .ok v1 w) : (results fn a.tmps).run P w = .ok v1 w := by
  cases x1 <;> simp_all [results, rvar]
theorem results2 (hr : fn.results = #[x1, x2]) (h1 : (rvar a.tmps x1).run P w = .ok v1 w) (h2 : (rvar a.tmps x2).run P w = .ok v2 w) : (results fn a.tmps).run P w = .ok (.tuple #[v1, v2]) w := by
  have e : (results fn a.tmps).run P w = (do let y1 ← rvar a.tmps x1; let y2 ← rvar a.tmps x2; pure (Value.tuple #[y1, y2]) : Sem Value).run P w := by
    cases x1 <;> cases x2 <;> simp [results, rvar, hr, Sem.run_bind, andThen_assoc']
  rw [e]
  simp [Sem.run_bind, h1, h2]
theorem results3 (hr : fn.results = #[x1, x2, x3]) (h1 : (rvar a.tmps x1).run P w = .ok v1 w) (h2 : (rvar a.tmps x2).run P w = .ok v2 w) (h3 : (rvar a.tmps x3).run P w = .ok v3 w) : (results fn a.tmps).run P w = .ok (.tuple #[v1, v2, v3]) w := by
  have e : (results fn a.tmps).run P w = (do let y1 ← rvar a.tmps x1; let y2 ← rvar a.tmps x2; let y3 ← rvar a.tmps x3; pure (Value.tuple #[y1, y2, y3]) : Sem Value).run P w := by
    cases x1 <;> cases x2 <;> cases x3 <;> simp [results, rvar, hr, Sem.run_bind, andThen_assoc']
  rw [e]
  simp [Sem.run_bind, h1, h2, h3]
theorem retx (hF : Fr a N L) (hr : (results fn a.tmps).run P w = .ok v w) (h : R (.returned v) w) : bodyPost P fn R .ret a w := bodyPost_ret hr hF.nodef h
theorem endx (hF : Fr a N L) (hr : (results fn a.tmps).run P w = .ok v w) (h : R (.returned v) w) : bodyPost P fn R .normal a w := bodyPost_end hr hF.nodef h
end
/-- A loop by a relation that counts down. -/
theorem c_loop {c : Code} {n : Nat} (I : Nat → Act → World → Prop) (h0 : I n a w) (hr : ∀ m a w, I m a w → c.wp P (Exit.then (fun a' w' => ∃ m', m' < m ∧ I m' a' w') Q) a w) : (Code.loop c).wp P Q a w := by
  intro b k cs
  have key : ∀ n a w, I n a w → ∃ e a' w', Q e a' w' ∧ Arrives P (lone (b.at a (.code c :: .inLoop c :: k)) cs w) b k cs e a' w' := by
    intro n
    induction n using Nat.strongRecOn with
    | _ n ih =>
      intro a w hI
      obtain ⟨e, a₁, w₁, hq, harr⟩ := hr n a w hI b (.inLoop c :: k) cs
      cases e with
      | normal =>
        obtain ⟨m', hlt, hI₁⟩ := hq
        obtain ⟨e₂, a₂, w₂, hq₂, harr₂⟩ := ih m' hlt a₁ w₁ hI₁
        exact ⟨e₂, a₂, w₂, hq₂, .of_steps (Steps.trans harr (.one step_inLoop)) harr₂⟩
      | exit id => exact ⟨_, a₁, w₁, hq, .pass (x := .inLoop c) rfl (fun _ _ => .inl (by simp)) harr⟩
      | goto l => exact ⟨_, a₁, w₁, hq, .pass (x := .inLoop c) rfl (fun _ _ => .inl (by simp)) harr⟩
      | ret => exact ⟨_, a₁, w₁, hq, .pass (x := .inLoop c) rfl (fun _ _ => .inl (by simp)) harr⟩
      | panic ch => exact ⟨_, a₁, w₁, hq, .pass (x := .inLoop c) rfl (fun _ _ => .inl (by simp)) harr⟩
      | outgrown => exact ⟨_, a₁, w₁, hq, .pass (x := .inLoop c) rfl (fun _ _ => .inl (by simp)) harr⟩
  obtain ⟨e, a', w', hq, harr⟩ := key _ a w h0
  exact ⟨e, a', w', hq, .of_steps (.one step_loop) harr⟩
end

/-! ### what the operations yield -/
section
variable {P : Program} {ρ : Operand → Value} {o : Oper} {w w1 : World} {v vx vy : Value} {x y : Operand} {t yt : TypeId}
theorem m0 : (#[] : Array Operand).map ρ = #[] := by simp
theorem p0 : (#[] : Array (Nat × Operand)).map (fun (i, x) => (i, ρ x)) = #[] := by simp
theorem m1 {x0 : Operand} {v0 : Value} (h0 : ρ x0 = v0) : (#[x0] : Array Operand).map ρ = #[v0] := by simp [h0]
theorem m2 {x0 : Operand} {v0 : Value} {x1 : Operand} {v1 : Value} (h0 : ρ x0 = v0) (h1 : ρ x1 = v1) : (#[x0, x1] : Array Operand).map ρ = #[v0, v1] := by simp [h0, h1]
theorem m3 {x0 : Operand} {v0 : Value} {x1 : Operand} {v1 : Value} {x2 : Operand} {v2 : Value} (h0 : ρ x0 = v0) (h1 : ρ x1 = v1) (h2 : ρ x2 = v2) : (#[x0, x1, x2] : Array Operand).map ρ = #[v0, v1, v2] := by simp [h0, h1, h2]
theorem m4 {x0 : Operand} {v0 : Value} {x1 : Operand} {v1 : Value} {x2 : Operand} {v2 : Value} {x3 : Operand} {v3 : Value} (h0 : ρ x0 = v0) (h1 : ρ x1 = v1) (h2 : ρ x2 = v2) (h3 : ρ x3 = v3) : (#[x0, x1, x2, x3] : Array Operand).map ρ = #[v0, v1, v2, v3] := by simp [h0, h1, h2, h3]
theorem m5 {x0 : Operand} {v0 : Value} {x1 : Operand} {v1 : Value} {x2 : Operand} {v2 : Value} {x3 : Operand} {v3 : Value} {x4 : Operand} {v4 : Value} (h0 : ρ x0 = v0) (h1 : ρ x1 = v1) (h2 : ρ x2 = v2) (h3 : ρ x3 = v3) (h4 : ρ x4 = v4) : (#[x0, x1, x2, x3, x4] : Array Operand).map ρ = #[v0, v1, v2, v3, v4] := by simp [h0, h1, h2, h3, h4]
theorem m6 {x0 : Operand} {v0 : Value} {x1 : Operand} {v1 : Value} {x2 : Operand} {v2 : Value} {x3 : Operand} {v3 : Value} {x4 : Operand} {v4 : Value} {x5 : Operand} {v5 : Value} (h0 : ρ x0 = v0) (h1 : ρ x1 = v1) (h2 : ρ x2 = v2) (h3 : ρ x3 = v3) (h4 : ρ x4 = v4) (h5 : ρ x5 = v5) : (#[x0, x1, x2, x3, x4, x5] : Array Operand).map ρ = #[v0, v1, v2, v3, v4, v5] := by simp [h0, h1, h2, h3, h4, h5]
theorem m7 {x0 : Operand} {v0 : Value} {x1 : Operand} {v1 : Value} {x2 : Operand} {v2 : Value} {x3 : Operand} {v3 : Value} {x4 : Operand} {v4 : Value} {x5 : Operand} {v5 : Value} {x6 : Operand} {v6 : Value} (h0 : ρ x0 = v0) (h1 : ρ x1 = v1) (h2 : ρ x2 = v2) (h3 : ρ x3 = v3) (h4 : ρ x4 = v4) (h5 : ρ x5 = v5) (h6 : ρ x6 = v6) : (#[x0, x1, x2, x3, x4, x5, x6] : Array Operand).map ρ = #[v0, v1, v2, v3, v4, v5, v6] := by simp [h0, h1, h2, h3, h4, h5, h6]
theorem m8 {x0 : Operand} {v0 : Value} {x1 : Operand} {v1 : Value} {x2 : Operand} {v2 : Value} {x3 : Operand} {v3 : Value} {x4 : Operand} {v4 : Value} {x5 : Operand} {v5 : Value} {x6 : Operand} {v6 : Value} {x7 : Operand} {v7 : Value} (h0 : ρ x0 = v0) (h1 : ρ x1 = v1) (h2 : ρ x2 = v2) (h3 : ρ x3 = v3) (h4 : ρ x4 = v4) (h5 : ρ x5 = v5) (h6 : ρ x6 = v6) (h7 : ρ x7 = v7) : (#[x0, x1, x2, x3, x4, x5, x6, x7] : Array Operand).map ρ = #[v0, v1, v2, v3, v4, v5, v6, v7] := by simp [h0, h1, h2, h3, h4, h5, h6, h7]
theorem p1 {i0 : Nat} {x0 : Operand} {v0 : Value} (h0 : ρ x0 = v0) : (#[(i0, x0)] : Array (Nat × Operand)).map (fun (i, x) => (i, ρ x)) = #[(i0, v0)] := by simp [h0]
theorem p2 {i0 : Nat} {x0 : Operand} {v0 : Value} {i1 : Nat} {x1 : Operand} {v1 : Value} (h0 : ρ x0 = v0) (h1 : ρ x1 = v1) : (#[(i0, x0), (i1, x1)] : Array (Nat × Operand)).map (fun (i, x) => (i, ρ x)) = #[(i0, v0), (i1, v1)] := by simp [h0, h1]
theorem p3 {i0 : Nat} {x0 : Operand} {v0 : Value} {i1 : Nat} {x1 : Operand} {v1 : Value} {i2 : Nat} {x2 : Operand} {v2 : Value} (h0 : ρ x0 = v0) (h1 : ρ x1 = v1) (h2 : ρ x2 = v2) : (#[(i0, x0), (i1, x1), (i2, x2)] : Array (Nat × Operand)).map (fun (i, x) => (i, ρ x)) = #[(i0, v0), (i1, v1), (i2, v2)] := by simp [h0, h1, h2]
theorem p4 {i0 : Nat} {x0 : Operand} {v0 : Value} {i1 : Nat} {x1 : Operand} {v1 : Value} {i2 : Nat} {x2 : Operand} {v2 : Value} {i3 : Nat} {x3 : Operand} {v3 : Value} (h0 : ρ x0 = v0) (h1 : ρ x1 = v1) (h2 : ρ x2 = v2) (h3 : ρ x3 = v3) : (#[(i0, x0), (i1, x1), (i2, x2), (i3, x3)] : Array (Nat × Operand)).map (fun (i, x) => (i, ρ x)) = #[(i0, v0), (i1, v1), (i2, v2), (i3, v3)] := by simp [h0, h1, h2, h3]
theorem p5 {i0 : Nat} {x0 : Operand} {v0 : Value} {i1 : Nat} {x1 : Operand} {v1 : Value} {i2 : Nat} {x2 : Operand} {v2 : Value} {i3 : Nat} {x3 : Operand} {v3 : Value} {i4 : Nat} {x4 : Operand} {v4 : Value} (h0 : ρ x0 = v0) (h1 : ρ x1 = v1) (h2 : ρ x2 = v2) (h3 : ρ x3 = v3) (h4 : ρ x4 = v4) : (#[(i0, x0), (i1, x1), (i2, x2), (i3, x3), (i4, x4)] : Array (Nat × Operand)).map (fun (i, x) => (i, ρ x)) = #[(i0, v0), (i1, v1), (i2, v2), (i3, v3), (i4, v4)] := by simp [h0, h1, h2, h3, h4]
theorem p6 {i0 : Nat} {x0 : Operand} {v0 : Value} {i1 : Nat} {x1 : Operand} {v1 : Value} {i2 : Nat} {x2 : Operand} {v2 : Value} {i3 : Nat} {x3 : Operand} {v3 : Value} {i4 : Nat} {x4 : Operand} {v4 : Value} {i5 : Nat} {x5 : Operand} {v5 : Value} (h0 : ρ x0 = v0) (h1 : ρ x1 = v1) (h2 : ρ x2 = v2) (h3 : ρ x3 = v3) (h4 : ρ x4 = v4) (h5 : ρ x5 = v5) : (#[(i0, x0), (i1, x1), (i2, x2), (i3, x3), (i4, x4), (i5, x5)] : Array (Nat × Operand)).map (fun (i, x) => (i, ρ x)) = #[(i0, v0), (i1, v1), (i2, v2), (i3, v3), (i4, v4), (i5, v5)] := by simp [h0, h1, h2, h3, h4, h5]
theorem p7 {i0 : Nat} {x0 : Operand} {v0 : Value} {i1 : Nat} {x1 : Operand} {v1 : Value} {i2 : Nat} {x2 : Operand} {v2 : Value} {i3 : Nat} {x3 : Operand} {v3 : Value} {i4 : Nat} {x4 : Operand} {v4 : Value} {i5 : Nat} {x5 : Operand} {v5 : Value} {i6 : Nat} {x6 : Operand} {v6 : Value} (h0 : ρ x0 = v0) (h1 : ρ x1 = v1) (h2 : ρ x2 = v2) (h3 : ρ x3 = v3) (h4 : ρ x4 = v4) (h5 : ρ x5 = v5) (h6 : ρ x6 = v6) : (#[(i0, x0), (i1, x1), (i2, x2), (i3, x3), (i4, x4), (i5, x5), (i6, x6)] : Array (Nat × Operand)).map (fun (i, x) => (i, ρ x)) = #[(i0, v0), (i1, v1), (i2, v2), (i3, v3), (i4, v4), (i5, v5), (i6, v6)] := by simp [h0, h1, h2, h3, h4, h5, h6]
theorem p8 {i0 : Nat} {x0 : Operand} {v0 : Value} {i1 : Nat} {x1 : Operand} {v1 : Value} {i2 : Nat} {x2 : Operand} {v2 : Value} {i3 : Nat} {x3 : Operand} {v3 : Value} {i4 : Nat} {x4 : Operand} {v4 : Value} {i5 : Nat} {x5 : Operand} {v5 : Value} {i6 : Nat} {x6 : Operand} {v6 : Value} {i7 : Nat} {x7 : Operand} {v7 : Value} (h0 : ρ x0 = v0) (h1 : ρ x1 = v1) (h2 : ρ x2 = v2) (h3 : ρ x3 = v3) (h4 : ρ x4 = v4) (h5 : ρ x5 = v5) (h6 : ρ x6 = v6) (h7 : ρ x7 = v7) : (#[(i0, x0), (i1, x1), (i2, x2), (i3, x3), (i4, x4), (i5, x5), (i6, x6), (i7, x7)] : Array (Nat × Operand)).map (fun (i, x) => (i, ρ x)) = #[(i0, v0), (i1, v1), (i2, v2), (i3, v3), (i4, v4), (i5, v5), (i6, v6), (i7, v7)] := by simp [h0, h1, h2, h3, h4, h5, h6, h7]
theorem r_of {s : Sem Value} (hs : execOp ρ o = (do pure (Next.value (← s)))) (h : s.run P w = .ok v w1) : (execOp ρ o).run P w = .ok (.value v) w1 := by
  rw [hs]
  simp [Sem.run_bind, h]
theorem r_move (ho : o.op = .move x) (hx : ρ x = v) : (execOp ρ o).run P w = .ok (.value v) w := by
  unfold execOp; simp only [ho, hx]; rfl
theorem r_assign (ho : o.op = .assign x) (hx : ρ x = v) : (execOp ρ o).run P w = .ok (.value v) w := by
  unfold execOp; simp only [ho, hx]; rfl
theorem r_pick_t {c : Operand} (ho : o.op = .pick c x y) (hc : ρ c = .bool true) (hx : ρ x = v) : (execOp ρ o).run P w = .ok (.value v) w := by
  unfold execOp; simp only [ho, hc, hx]; rfl
theorem r_pick_f {c : Operand} (ho : o.op = .pick c x y) (hc : ρ c = .bool false) (hy : ρ y = v) : (execOp ρ o).run P w = .ok (.value v) w := by
  unfold execOp; simp only [ho, hc, hy]; rfl
theorem r_not {b : Bool} (ho : o.op = .unOp .not t x) (hx : ρ x = .bool b) : (execOp ρ o).run P w = .ok (.value (.bool (!b))) w := by
  unfold execOp; simp only [ho, hx]; rfl
theorem r_neg {k : IntKind} {n : Int} (ho : o.op = .unOp .neg t x) (hx : ρ x = .int k n) : (execOp ρ o).run P w = .ok (.value (.int k (k.wrap (0 - n)))) w := by
  unfold execOp; simp only [ho, hx]; rfl
theorem r_neg64 {n : Int} (ho : o.op = .unOp .neg t x) (hx : ρ x = .int .i64 n) : (execOp ρ o).run P w = .ok (.value (.int .i64 (wrap64 (0 - n)))) w := by rw [← i64_w]; exact r_neg ho hx
theorem eqg_no {op : BinOp} {A B : Array Value} (hG : P.eqGuardType P.depth t = false) (w : World) : (eqGuard op t x y (.agg A) (.agg B)).run P w = .ok () w := by
  unfold eqGuard
  cases op <;> simp [program, Sem.run_bind, Sem.run, hG]
theorem r_bin {op : BinOp} (ho : o.op = .binOp op t x y yt) (hx : ρ x = vx) (hy : ρ y = vy) (hg : (eqGuard op t x y vx vy).run P w = .ok () w) (h : (binOp op t vx vy).run P w = .ok v w) : (execOp ρ o).run P w = .ok (.value v) w := by
  unfold execOp
  simp only [ho, hx, hy]
  simp [Sem.run_bind, hg, h]
section
variable {k : IntKind} {m n : Int}
theorem r_lss (ho : o.op = .binOp .lss t x y yt) (hx : ρ x = .int k m) (hy : ρ y = .int k n) : (execOp ρ o).run P w = .ok (.value (.bool (decide (m < n)))) w := r_bin ho hx hy rfl (by simp [binOp, Op.intCmp])
theorem r_leq (ho : o.op = .binOp .leq t x y yt) (hx : ρ x = .int k m) (hy : ρ y = .int k n) : (execOp ρ o).run P w = .ok (.value (.bool (decide (m ≤ n)))) w := r_bin ho hx hy rfl (by simp [binOp, Op.intCmp])
theorem r_gtr (ho : o.op = .binOp .gtr t x y yt) (hx : ρ x = .int k m) (hy : ρ y = .int k n) : (execOp ρ o).run P w = .ok (.value (.bool (decide (n < m)))) w := r_bin ho hx hy rfl (by simp [binOp, Op.intCmp])
theorem r_geq (ho : o.op = .binOp .geq t x y yt) (hx : ρ x = .int k m) (hy : ρ y = .int k n) : (execOp ρ o).run P w = .ok (.value (.bool (decide (n ≤ m)))) w := r_bin ho hx hy rfl (by simp [binOp, Op.intCmp])
theorem r_eql (ho : o.op = .binOp .eql t x y yt) (hx : ρ x = .int k m) (hy : ρ y = .int k n) : (execOp ρ o).run P w = .ok (.value (.bool (decide (m = n)))) w := r_bin ho hx hy rfl (by simp [binOp, Op.intCmp]; rfl)
theorem r_neq (ho : o.op = .binOp .neq t x y yt) (hx : ρ x = .int k m) (hy : ρ y = .int k n) : (execOp ρ o).run P w = .ok (.value (.bool (!decide (m = n)))) w := r_bin ho hx hy rfl (by simp [binOp, Op.intCmp, bne]; rfl)
theorem r_add (ho : o.op = .binOp .add t x y yt) (hx : ρ x = .int .i64 m) (hy : ρ y = .int .i64 n) : (execOp ρ o).run P w = .ok (.value (.int .i64 (wrap64 (m + n)))) w := r_bin ho hx hy rfl (by simp [binOp, Op.intArith, i64_w])
theorem r_sub (ho : o.op = .binOp .sub t x y yt) (hx : ρ x = .int .i64 m) (hy : ρ y = .int .i64 n) : (execOp ρ o).run P w = .ok (.value (.int .i64 (wrap64 (m - n)))) w := r_bin ho hx hy rfl (by simp [binOp, Op.intArith, i64_w])
theorem r_mul (ho : o.op = .binOp .mul t x y yt) (hx : ρ x = .int .i64 m) (hy : ρ y = .int .i64 n) : (execOp ρ o).run P w = .ok (.value (.int .i64 (wrap64 (m * n)))) w := r_bin ho hx hy rfl (by simp [binOp, Op.intArith, i64_w])
end
theorem r_seq {s1 s2 : ByteArray} (ho : o.op = .binOp .eql t x y yt) (hx : ρ x = .string s1) (hy : ρ y = .string s2) : (execOp ρ o).run P w = .ok (.value (.bool (s1.toList == s2.toList))) w := r_bin ho hx hy rfl (by simp [binOp, Op.stringOp])
theorem r_sne {s1 s2 : ByteArray} (ho : o.op = .binOp .neq t x y yt) (hx : ρ x = .string s1) (hy : ρ y = .string s2) : (execOp ρ o).run P w = .ok (.value (.bool (!(s1.toList == s2.toList)))) w := r_bin ho hx hy rfl (by simp [binOp, Op.stringOp])
theorem b_eq {a b : Bool} (hu : P.underlying t = some .bool) : (binOp .eql t (.bool a) (.bool b)).run P w = .ok (.bool (a == b)) w := by
  have h : ∀ d : Nat, (Op.equalIn (d + 1) t (.bool a) (.bool b)).run P w = .ok (a == b) w := fun d => by simp [Op.equalIn, run_underlying hu, Sem.run_bind]
  simp only [binOp]
  simp [Op.equal, Op.maxDepth, h 9999]
theorem b_ne {a b : Bool} (hu : P.underlying t = some .bool) : (binOp .neq t (.bool a) (.bool b)).run P w = .ok (.bool (!(a == b))) w := by
  have h : ∀ d : Nat, (Op.equalIn (d + 1) t (.bool a) (.bool b)).run P w = .ok (a == b) w := fun d => by simp [Op.equalIn, run_underlying hu, Sem.run_bind]
  simp only [binOp]
  simp [Op.equal, Op.maxDepth, Sem.run_bind, h 9999]
theorem r_beq {a b : Bool} (ho : o.op = .binOp .eql t x y yt) (hu : P.underlying t = some .bool) (hx : ρ x = .bool a) (hy : ρ y = .bool b) : (execOp ρ o).run P w = .ok (.value (.bool (a == b))) w := r_bin ho hx hy rfl (b_eq hu)
theorem r_bne {a b : Bool} (ho : o.op = .binOp .neq t x y yt) (hu : P.underlying t = some .bool) (hx : ρ x = .bool a) (hy : ρ y = .bool b) : (execOp ρ o).run P w = .ok (.value (.bool (!(a == b)))) w := r_bin ho hx hy rfl (b_ne hu)
theorem r_extract {i : Nat} {vs : Array Value} (ho : o.op = .extract x i) (hx : ρ x = .tuple vs) (hv : vs[i]? = some v) : (execOp ρ o).run P w = .ok (.value v) w := by
  refine r_of (s := Instr.extract (.tuple vs) i) (by unfold execOp; simp only [ho, hx]) ?_
  simp [Instr.extract, hv]
theorem r_func {fn : Fn} {f1 f2 : Array Operand} {v1 v2 : Array Value} (ho : o.op = .makeFunc fn f1 f2) (h1 : f1.map ρ = v1) (h2 : f2.map ρ = v2) : (execOp ρ o).run P w = .ok (.value (.func fn v1 v2)) w := by
  unfold execOp; simp only [ho, h1, h2]; rfl
theorem r_box (ho : o.op = .box t x) (hx : ρ x = vx) {cs : Array Value} (hc : vx.cells = cs) : (execOp ρ o).run P w = .ok (.value (.pointer (some ⟨w.heap.size, 0, none⟩))) (w.alloc (.cells cs t)) := by
  unfold execOp; simp only [ho, hx]; subst hc; rfl
theorem r_alloc (ho : o.op = .alloc t) {z : Value} (hz : (zeroValue t).run P w = .ok z w) {cs : Array Value} (hc : z.cells = cs) : (execOp ρ o).run P w = .ok (.value (.pointer (some ⟨w.heap.size, 0, none⟩))) (w.alloc (.cells cs t)) := by
  refine r_of (s := Instr.alloc t true (.tuple #[])) (by unfold execOp; simp only [ho]) ?_
  subst hc
  simp only [Instr.alloc, Sem.run_bind, hz, Result.andThen_ok]
  rfl
theorem r_field {i : Nat} (ho : o.op = .field t x i) (hx : ρ x = vx) (h : (Instr.field t vx i).run P w = .ok v w) : (execOp ρ o).run P w = .ok (.value v) w := r_of (by unfold execOp; simp only [ho, hx]) h
theorem r_fieldAddr {i : Nat} (ho : o.op = .fieldAddr t x i) (hx : ρ x = vx) (h : (Instr.fieldAt t vx i).run P w = .ok v w) : (execOp ρ o).run P w = .ok (.value v) w := r_of (by unfold execOp; simp only [ho, hx]) h
theorem r_indexAddr {i : Operand} {vi : Value} (ho : o.op = .indexAddr t x i) (hx : ρ x = vx) (hi : ρ i = vi) (h : (Instr.indexAt t vx vi).run P w = .ok v w) : (execOp ρ o).run P w = .ok (.value v) w := r_of (by unfold execOp; simp only [ho, hx, hi]) h
theorem r_index {i : Operand} {vi : Value} (ho : o.op = .index t x i) (hx : ρ x = vx) (hi : ρ i = vi) (h : (Instr.index t vx vi).run P w = .ok v w) : (execOp ρ o).run P w = .ok (.value v) w := r_of (by unfold execOp; simp only [ho, hx, hi]) h
theorem r_load (ho : o.op = .load t x) (hx : ρ x = vx) (h : (Instr.loadAt t vx).run P w = .ok v w) : (execOp ρ o).run P w = .ok (.value v) w := r_of (by unfold execOp; simp only [ho, hx]) h
theorem r_convert {st : TypeId} (ho : o.op = .convert st t x) (hx : ρ x = vx) (h : (convert st t vx).run P w = .ok v w) : (execOp ρ o).run P w = .ok (.value v) w := r_of (by unfold execOp; simp only [ho, hx]) h
theorem r_build {ps : Array (Nat × Operand)} {vs : Array (Nat × Value)} (ho : o.op = .build t ps) (hx : ps.map (fun (i, x) => (i, ρ x)) = vs) (h : (Instr.build t vs).run P w = .ok v w) : (execOp ρ o).run P w = .ok (.value v) w := r_of (by unfold execOp; simp only [ho, hx]) h
theorem r_lookup {i : Operand} {vi : Value} {c : Bool} (ho : o.op = .lookup t x i c) (hx : ρ x = vx) (hi : ρ i = vi) (h : (Instr.lookup t vx vi c).run P w = .ok v w) : (execOp ρ o).run P w = .ok (.value v) w := r_of (by unfold execOp; simp only [ho, hx, hi]) h
theorem r_store (ho : o.op = .store t x y) (hx : ρ x = vx) (hy : ρ y = vy) (h : (Instr.storeAt t vx vy).run P w = .ok () w1) : (execOp ρ o).run P w = .ok .skip w1 := by
  unfold execOp
  simp only [ho, hx, hy]
  simp [Sem.run_bind, h]
theorem r_nil {ad' : Addr} (ho : o.op = .nilCheck x) (hx : ρ x = .pointer (some ad')) : (execOp ρ o).run P w = .ok (.value (.pointer (some ad'))) w := by
  unfold execOp; simp only [ho, hx]; rfl
theorem r_len {ts : Array TypeId} {A : Option Addr} {n c : Nat} {e : TypeId} (ho : o.op = .call { callee := .builtin .len, args := #[x], argTypes := ts }) (ht : ts[0]? = some t) (hu : P.underlying t = some (.slice e)) (hx : ρ x = .slice A n c) : (execOp ρ o).run P w = .ok (.value (.int .i64 n)) w := by
  unfold execOp
  simp only [ho]
  simp [resolve, invoke, builtin, Builtin.len_, ht, hx, Sem.run_bind, run_underlying hu, goInt]
theorem r_lenS {ts : Array TypeId} {s : ByteArray} (ho : o.op = .call { callee := .builtin .len, args := #[x], argTypes := ts }) (ht : ts[0]? = some t) (hu : P.underlying t = some .string) (hx : ρ x = .string s) : (execOp ρ o).run P w = .ok (.value (.int .i64 s.size)) w := by
  unfold execOp
  simp only [ho]
  simp [resolve, invoke, builtin, Builtin.len_, ht, hx, Sem.run_bind, run_underlying hu, goInt]
/-- A call of a function that is named. -/
theorem r_call {f : FuncId} {fn : Func} {as_ : Array Operand} {ts : Array TypeId} {args : Array Value} (ho : o.op = .call { callee := .value (.func f), args := as_, argTypes := ts }) (hf : P.funcs[f]? = some fn) (hname : (fn.name == "runtime.NumGoroutine") = false) (hb : fn.body.isSome = true)
    (hρ : ρ (.func f) = .func (.func f) #[] #[]) (hargs : as_.map ρ = args) : (execOp ρ o).run P w = .ok (.enter f args) w := by
  have he := enters_ hf hname hb args w
  unfold execOp
  simp [ho, resolve, Deferred.ofValue, invoke, hρ, hargs, he]
/-- A call of a function value. -/
theorem r_callv {f : FuncId} {fn : Func} {as_ : Array Operand} {ts : Array TypeId} {args caps : Array Value} (ho : o.op = .call { callee := .value x, args := as_, argTypes := ts }) (hx : ρ x = .func (.func f) #[] caps) (hf : P.funcs[f]? = some fn) (hname : (fn.name == "runtime.NumGoroutine") = false) (hb : fn.body.isSome = true)
    (hargs : as_.map ρ = args) : (execOp ρ o).run P w = .ok (.enter f (args ++ caps)) w := by
  have he := enters_ hf hname hb (args ++ caps) w
  unfold execOp
  simp [ho, resolve, Deferred.ofValue, invoke, hx, hargs]
  simpa using he
end

/-! ### blocks -/
section
variable {P : Program} {w w1 : World} {b : Nat} {cs : Array Value} {T t : TypeId} {v : Value}
/-- One cell read. -/
theorem l_one (hb : w.heap[b]? = some (.cells cs T (0, 0))) (i : Nat) (hv : cs[i]? = some v) (hs : (isAgg t).run P w = .ok false w) : (Instr.loadAt t (.pointer (some ⟨b, i, none⟩))).run P w = .ok v w := by
  have hc := (blk_cell hb i).trans hv
  simp only [Instr.loadAt, Instr.sureAddr, loadVar, Sem.run_bind, Sem.run_pure, Result.andThen_ok, hs, Bool.false_eq_true, if_false, load, Sem.run, hc]
/-- A part that is a struct read. -/
theorem l_part (hb : w.heap[b]? = some (.cells cs T (0, 0))) (i : Nat) (sub : List Value) (hsub : (cs.toList.drop i).take sub.length = sub) {d : TypeDesc} (hu : P.underlying t = some d) (ha : d.isRow = true) (hi : (P.info? t).map (·.size) = some sub.length) :
    (Instr.loadAt t (.pointer (some ⟨b, i, none⟩))).run P w = .ok (.agg sub.toArray) w := by
  refine run_loadAt_mid w b i t sub d ?_ hu ha hi
  intro j v hv
  rw [blk_cell hb]
  have hj : j < sub.length := (List.getElem?_eq_some_iff.1 hv).1
  rw [← hsub, List.getElem?_take_of_lt hj, List.getElem?_drop] at hv
  simpa using hv
/-- What a store into one's own block leaves. -/
structure Set1 (w w1 : World) (b : Nat) (cs : Array Value) (T : TypeId) : Prop where
  here : w1.heap[b]? = some (.cells cs T (0, 0))
  away : ∀ i, i ≠ b → w1.heap[i]? = w.heap[i]?
  size : w1.heap.size = w.heap.size
  below : ∀ B, B ≤ b → Below B w w1
theorem Set1.blk {g : Nat} {ob : Obj} (h : Set1 w w1 b cs T) (hg : w.heap[g]? = some ob) (hne : g ≠ b) : w1.heap[g]? = some ob := (h.away g hne).trans hg
theorem s_one (hb : w.heap[b]? = some (.cells cs T (0, 0))) (i : Nat) {cs' : Array Value} (hi : Nat.blt i cs.size = true) (hcs : cs.setIfInBounds i v = cs')
    (hrun : ∀ w : World, (w.cell? ⟨b, i, none⟩).isSome = true → w.frozen? ⟨b, i, none⟩ = false → (Instr.storeAt t (.pointer (some ⟨b, i, none⟩)) v).run P w = .ok () (w.setCell ⟨b, i, none⟩ v)) :
    ∃ w1, (Instr.storeAt t (.pointer (some ⟨b, i, none⟩)) v).run P w = .ok () w1 ∧ Set1 w w1 b cs' T :=
  ⟨_, hrun w (by rw [blk_cell hb, Array.getElem?_eq_getElem (Nat.le_of_ble_eq_true hi)]; rfl) (blk_frozen hb i), blk_put hb i v hcs, fun j hj => Below.heap_setCell _ _ _ _ hj, by simp [World.setCell], fun B hB => (Below.refl B w).setCell (p := ⟨b, i, none⟩) hB v⟩
theorem x_store_int (k : IntKind) (n : Int) (i : Nat) (w : World) (hu : P.underlying t = some (.int k)) (hi : (P.info? t).map (·.size) = some 1) (hc : (w.cell? ⟨b, i, none⟩).isSome = true) (hf : w.frozen? ⟨b, i, none⟩ = false) : (Instr.storeAt t (.pointer (some ⟨b, i, none⟩)) (.int k n)).run P w = .ok () (w.setCell ⟨b, i, none⟩ (.int k n)) := by
  obtain ⟨v, hv⟩ := Option.isSome_iff_exists.1 hc
  cases hq : P.info? t with
  | none => simp [hq] at hi
  | some j =>
    have hs : j.size = 1 := by simpa [hq] using hi
    have hz : (sizeOf t).run P w = .ok 1 w := by simp [sizeOf, typeInfo, hq, hs]
    go_simp
def setFrom (cs : Array Value) : Nat → List Value → Array Value
  | _, [] => cs
  | o, v :: r => setFrom (cs.setIfInBounds o v) (o + 1) r
theorem heap_setCells : ∀ (vs : List Value) (o : Nat) (w : World) (cs : Array Value), w.heap[b]? = some (.cells cs T (0, 0)) → (w.setCells b o vs).heap[b]? = some (.cells (setFrom cs o vs) T (0, 0))
  | [], _, _, _, h => h
  | v :: r, o, w, cs, h => heap_setCells r (o + 1) _ _ (blk_set h o v)
theorem heap_setCells_other {i : Nat} (hi : i ≠ b) : ∀ (vs : List Value) (o : Nat) (w : World), (w.setCells b o vs).heap[i]? = w.heap[i]?
  | [], _, _ => rfl
  | v :: r, o, w => (heap_setCells_other hi r (o + 1) _).trans (Below.heap_setCell _ _ _ _ hi)
theorem size_setCells : ∀ (vs : List Value) (o : Nat) (w : World), (w.setCells b o vs).heap.size = w.heap.size
  | [], _, _ => rfl
  | v :: r, o, w => (size_setCells r (o + 1) _).trans (by simp [World.setCell])
theorem below_setCells {B : Nat} (hB : B ≤ b) : ∀ (vs : List Value) (o : Nat) (w : World), Below B w (w.setCells b o vs)
  | [], _, w => Below.refl _ _
  | v :: r, o, w => ((Below.refl B w).setCell (p := ⟨b, o, none⟩) hB v).trans (below_setCells hB r (o + 1) _)
theorem setFrom_list : ∀ (vs pre old post : List Value) (cs : Array Value), cs.toList = pre ++ old ++ post → vs.length = old.length → (setFrom cs pre.length vs).toList = pre ++ vs ++ post
  | [], pre, old, post, cs, h, hl => by
    cases old with
    | nil => simpa [setFrom] using h
    | cons _ _ => simp at hl
  | v :: r, pre, old, post, cs, h, hl => by
    cases old with
    | nil => simp at hl
    | cons x old =>
      have h1 : (cs.setIfInBounds pre.length v).toList = (pre ++ [v]) ++ old ++ post := by
        rw [Array.toList_setIfInBounds, h]
        simp
      have h2 := setFrom_list r (pre ++ [v]) old post _ h1 (by simpa using hl)
      rw [setFrom]
      simpa using h2
theorem s_part (hb : w.heap[b]? = some (.cells cs T (0, 0))) (i : Nat) (cells : Array Value) {l' : List Value} (hi0 : Nat.ble (i + cells.size) cs.size = true) (hcs : cs.toList.take i ++ cells.toList ++ cs.toList.drop (i + cells.size) = l') (hz : (P.info? t).map (·.size) = some cells.size) (h1 : (cells.toList.all (·.oneCell')) = true) :
    ∃ w1, (Instr.storeAt t (.pointer (some ⟨b, i, none⟩)) (.agg cells)).run P w = .ok () w1 ∧ Set1 w w1 b l'.toArray T := by
  have hi := Nat.le_of_ble_eq_true hi0
  have hset : setFrom cs i cells.toList = l'.toArray := by
    apply Array.ext'
    have hp : (cs.toList.take i).length = i := by rw [List.length_take]; simp; omega
    have := setFrom_list cells.toList (cs.toList.take i) ((cs.toList.drop i).take cells.size) (cs.toList.drop (i + cells.size)) cs (by
      rw [List.append_assoc, ← List.drop_drop, List.take_append_drop, List.take_append_drop]) (by rw [List.length_take, List.length_drop]; simp; omega)
    rw [hp] at this
    rw [this, hcs]
  refine ⟨_, run_storeAt_mid w b i t cells (fun j hj => ?_) hz (by rw [← Array.all_toList]; exact h1), by rw [← hset]; exact heap_setCells _ _ _ _ hb, fun j hj => heap_setCells_other hj _ _ _, size_setCells _ _ _, fun B hB => below_setCells hB _ _ _⟩
  rw [blk_cell hb, blk_frozen hb]
  exact ⟨by rw [Array.getElem?_eq_getElem (by omega)]; rfl, rfl⟩
theorem x_store_any (i : Nat) (v : Value) (w : World) (hi : (P.info? t).map (·.size) = some 1) (h1 : v.oneCell' = true) (hc : (w.cell? ⟨b, i, none⟩).isSome = true) (hf : w.frozen? ⟨b, i, none⟩ = false) : (Instr.storeAt t (.pointer (some ⟨b, i, none⟩)) v).run P w = .ok () (w.setCell ⟨b, i, none⟩ v) := by
  obtain ⟨u, hu⟩ := Option.isSome_iff_exists.1 hc
  cases hq : P.info? t with
  | none => simp [hq] at hi
  | some j =>
    have hs : j.size = 1 := by simpa [hq] using hi
    have hz : (sizeOf t).run P w = .ok 1 w := by simp [sizeOf, typeInfo, hq, hs]
    have hcs : v.cells = #[v] := by cases v <;> first | rfl | cases h1
    have hst := run_store P w ⟨b, i, none⟩ v .plain h1
    rw [hu] at hst
    simp only [hf, Bool.false_eq_true, if_false] at hst
    simp only [Instr.storeAt, Instr.sureAddr, storeVar, Sem.run_bind, Sem.run_pure, Result.andThen_ok, hcs, hz]
    simp [storeCells, Addr.add, Sem.run_bind, hst]
theorem l_cell {A : Nat} {o : Nat} {cells : List Value} (hc : w.rangeAt A o cells) (i : Nat) (hv : cells[i]? = some v) (hs : (isAgg t).run P w = .ok false w) : (Instr.loadAt t (.pointer (some ⟨A, o + i, none⟩))).run P w = .ok v w := by
  have hc := hc i v hv
  simp only [Instr.loadAt, Instr.sureAddr, loadVar, Sem.run_bind, Sem.run_pure, Result.andThen_ok, hs, Bool.false_eq_true, if_false, load, Sem.run, hc]
theorem l_cells {A o : Nat} {cells : List Value} (hc : w.rangeAt A o cells) (i : Nat) (sub : List Value) (hsub : (cells.drop i).take sub.length = sub) {d : TypeDesc} (hu : P.underlying t = some d) (ha : d.isRow = true) (hi : (P.info? t).map (·.size) = some sub.length) :
    (Instr.loadAt t (.pointer (some ⟨A, o + i, none⟩))).run P w = .ok (.agg sub.toArray) w := by
  refine run_loadAt_mid w A (o + i) t sub d ?_ hu ha hi
  intro j v hv
  have hj : j < sub.length := (List.getElem?_eq_some_iff.1 hv).1
  rw [← hsub, List.getElem?_take_of_lt hj, List.getElem?_drop] at hv
  have := hc (i + j) v hv
  rwa [← Nat.add_assoc] at this
theorem agg_no {d : TypeDesc} (hu : P.underlying t = some d) (ha : d.isRow = false) : (isAgg t).run P w = .ok false w := by
  unfold isAgg
  rw [Sem.run_bind, run_underlying hu]
  cases d <;> first | rfl | cases ha
end

theorem R_set1 {α : Type} {d : Kd α} {e base b : Nat} {w w1 : World} {cs cs0 : Array Value} {T : TypeId} {v : Value} {xs : List α} (h : d.R e w base (fun _ => True) v xs) (hb : w.heap[b]? = some (.cells cs0 T (0, 0))) (ht : ∀ q, q ∈ e :: d.E → q ≠ T) (hS : Set1 w w1 b cs T) : d.R e w1 base (fun _ => True) v xs :=
  Kd.R_mono (Kd.R_step (Kd.R_types h hb ht) (fun k hk _ => hS.away k hk.2)) (fun _ _ => trivial)
/-! ### elements of a row that is read -/
section
variable {P : Program} {w : World} {A : Option Addr} {n c : Nat} {α : Type} {d : Kd α} {xs : List α} {t e : TypeId} {i : Int}
/-- Where element i lies, and its cells. -/
theorem e_addr (h : Kd.C d w A n xs) (z : α) (h0 : 0 ≤ i) (h1 : i < n) (hu : P.underlying t = some (.slice e)) (hs : (P.info? e).map (·.size) = some d.sz) :
    ∃ ad cs, (∀ W, (Instr.indexAt t (.slice A n c) (.int .i64 i)).run P W = .ok (.pointer (some (Addr.add ad (i.toNat * d.sz)))) W) ∧ cs.length = d.sz ∧ d.K w (xs.getD i.toNat z) cs ∧ ∀ j u, cs[j]? = some u → w.cell? (ad.add (i.toNat * d.sz + j)) = some u := by
  obtain ⟨ad, cs, rfl, h2, h3, h4⟩ := Kd.C_get h z i h0 h1
  refine ⟨ad, cs, fun W => ?_, h2, h3, h4⟩
  obtain ⟨inf, hi, hz⟩ : ∃ inf, P.info? e = some inf ∧ inf.size = d.sz := by
    cases hq : P.info? e with
    | none => simp [hq] at hs
    | some inf => exact ⟨inf, rfl, by simpa [hq] using hs⟩
  have hzr : (sizeOf e).run P W = .ok d.sz W := by simp [sizeOf, typeInfo, hi, hz]
  simp [Instr.indexAt, asIntOf, Sem.run_bind, run_underlying hu, hzr, h0, h1]
theorem spot_none {ad : Addr} {v : Value} (h : w.cell? ad = some v) : ad = ⟨ad.block, ad.off, none⟩ := by
  obtain ⟨b, o, s⟩ := ad
  cases s with
  | none => rfl
  | some k => simp [World.cell?] at h; split at h <;> simp at h
theorem e_at (h : Kd.C d w A n xs) (z : α) (h0 : 0 ≤ i) (h1 : i < n) (hu : P.underlying t = some (.slice e)) (hs : (P.info? e).map (·.size) = some d.sz) (hp : 0 < d.sz) :
    ∃ b o cs, (∀ W, (Instr.indexAt t (.slice A n c) (.int .i64 i)).run P W = .ok (.pointer (some ⟨b, o, none⟩)) W) ∧ d.K w (xs.getD i.toNat z) cs ∧ Aside0 (w.rangeAt b o cs) := by
  obtain ⟨ad, cs, hr, hl, hk, hc⟩ := e_addr (P := P) (c := c) h z h0 h1 hu hs
  obtain ⟨u, hu0⟩ : ∃ u, cs[0]? = some u := ⟨cs[0]'(by omega), List.getElem?_eq_getElem _⟩
  have hsp := spot_none (hc 0 u hu0)
  rw [Nat.add_zero] at hsp
  refine ⟨(ad.add (i.toNat * d.sz)).block, (ad.add (i.toNat * d.sz)).off, cs, fun W => by rw [← hsp]; exact hr W, hk, ⟨fun j v hv => ?_⟩⟩
  have := hc j v hv
  rwa [← Addr.add_add, hsp, Addr.add_mid] at this
theorem K_scalar {enc : α → Value} {h1 : ∀ x, (enc x).oneCell' = true} {x : α} {cs : List Value} (h : (Kd.scalar enc h1).K w x cs) : cs = [enc x] := h
theorem C_nil_ : Kd.C d w none 0 ([] : List α) := by
  obtain ⟨A', c', he, hl, hr⟩ := Kd.R_reads (Kd.R_nil d 0 w 0 (fun _ => True))
  injection he with h1 h2 h3
  subst h1
  exact hr
end

/-! ### cuts of a row -/
section
variable {P : Program} {w : World} {A : Option Addr} {c : Nat} {α : Type} {d : Kd α} {xs : List α} {t e : TypeId} {o : Oper} {ρ : Operand → Value} {x y y2 : Operand} {j j2 : Int} {k1 k2 : IntKind}
theorem info_size {e : TypeId} {n : Nat} (h : (P.info? e).map (·.size) = some n) : ∃ i, P.info? e = some i ∧ i.size = n := by
  cases hq : P.info? e with
  | none => simp [hq] at h
  | some i => exact ⟨i, rfl, by simpa [hq] using h⟩
theorem run_sliceAt {v : Value} {lo hi mx : Option Value} (ht : P.underlying t = some (.slice e)) : (Instr.sliceAt t v lo hi mx).run P w = (Instr.slice t v lo hi mx).run P w := by
  simp only [Instr.sliceAt, Sem.run_bind, run_underlying ht, Result.andThen_ok]
theorem toN_le {j : Int} {n : Nat} (h1 : j ≤ n) : j.toNat ≤ n := by omega
theorem r_cut_to (ho : o.op = .slice t x none (some y) none) (hx : ρ x = .slice A xs.length c) (hy : ρ y = .int k1 j) (ht : P.underlying t = some (.slice e)) {n : Nat} (hi : (P.info? e).map (·.size) = some n) (h0 : 0 ≤ j) (h1 : j ≤ xs.length) (hc : xs.length ≤ c) :
    (execOp ρ o).run P w = .ok (.value (.slice A (xs.take j.toNat).length c)) w := by
  obtain ⟨i, hi, _⟩ := info_size hi
  have := cut_to t e k1 ht hi A xs.length c j h0 h1 hc w
  rw [List.length_take, Nat.min_eq_left (toN_le h1)]
  exact r_of (by unfold execOp; simp only [ho, hx, Option.map_none, Option.map_some, hy]) ((run_sliceAt ht).trans this)
theorem r_cut_from (ho : o.op = .slice t x (some y) none none) (hx : ρ x = .slice A xs.length c) (hy : ρ y = .int k1 j) (ht : P.underlying t = some (.slice e)) {n : Nat} (hi : (P.info? e).map (·.size) = some n) (h0 : 0 ≤ j) (h1 : j ≤ xs.length) :
    (execOp ρ o).run P w = .ok (.value (.slice (if c = j.toNat then A else A.map (·.add (j.toNat * n))) (xs.drop j.toNat).length (c - j.toNat))) w := by
  obtain ⟨i, hi, hs⟩ := info_size hi
  have := cut_from t e k1 ht hi n hs A xs.length c j h0 h1 w
  rw [List.length_drop]
  exact r_of (by unfold execOp; simp only [ho, hx, Option.map_none, Option.map_some, hy]) ((run_sliceAt ht).trans this)
theorem r_cut_mid (ho : o.op = .slice t x (some y) (some y2) none) (hx : ρ x = .slice A xs.length c) (hy : ρ y = .int k1 j) (hy2 : ρ y2 = .int k2 j2) (ht : P.underlying t = some (.slice e)) {n : Nat} (hi : (P.info? e).map (·.size) = some n) (h0 : 0 ≤ j) (h1 : j ≤ j2) (h2 : j2 ≤ xs.length) (hc : xs.length ≤ c) :
    (execOp ρ o).run P w = .ok (.value (.slice (if c = j.toNat then A else A.map (·.add (j.toNat * n))) ((xs.take j2.toNat).drop j.toNat).length (c - j.toNat))) w := by
  obtain ⟨i, hi, hs⟩ := info_size hi
  have := cut_mid t e k1 k2 ht hi n hs A xs.length c j j2 h0 h1 h2 hc w
  rw [List.length_drop, List.length_take, Nat.min_eq_left (toN_le h2)]
  exact r_of (by unfold execOp; simp only [ho, hx, Option.map_none, Option.map_some, hy, hy2]) ((run_sliceAt ht).trans this)
theorem le_take (h : xs.length ≤ c) (n : Nat) : (xs.take n).length ≤ c := Nat.le_trans (by rw [List.length_take]; exact Nat.min_le_right _ _) h
theorem le_drop (h : xs.length ≤ c) (n : Nat) : (xs.drop n).length ≤ c - n := by rw [List.length_drop]; omega
theorem le_mid (h : xs.length ≤ c) (n m : Nat) : ((xs.take m).drop n).length ≤ c - n := le_drop (le_take h m) n
theorem KM_scalar {enc : α → Value} {h1 : ∀ x, (enc x).oneCell' = true} {W : World} {b : Nat} {ok : Nat → Prop} : ∀ (x : α) cs, (Kd.scalar enc h1).K W x cs → (Kd.scalar enc h1).M W b ok x cs := fun _ _ h => h
end
/-! ### rows of the call's own -/
section
variable {P : Program} {ops : Array Oper} {Q : Exit → Act → World → Prop} {a : Act} {w w1 : World} {rest : List Oper} {o : Oper} {N d : Nat} {L : List (Nat × Value)} {ρ : Operand → Value} {t : TypeId} {v : Value}
theorem r_buildSlice {n : Nat} {ps : Array (Nat × Operand)} {vs : Array (Nat × Value)} (ho : o.op = .buildSlice t n ps) (hx : ps.map (fun (i, x) => (i, ρ x)) = vs) (h : (Instr.buildSlice t n vs).run P w = .ok v w1) : (execOp ρ o).run P w = .ok (.value v) w1 := r_of (by unfold execOp; simp only [ho, hx]) h
/-- append of one element, the literal's row being the last block. -/
theorem s_append {α : Type} (k : Kd α) {w0 W : World} (hF : Fr a N L) (hg : o.guard = none) (hd : o.dst = some d) (hN : Nat.blt d N = true) (s x : Operand) (t e : TypeId) (z : Value) (bytes : Nat)
    (ho : o.op = .call { callee := .builtin .append, args := #[s, x], argTypes := #[t, t] })
    (ht : P.underlying t = some (.slice e)) (hinfo : (P.info? e).map (fun i => (i.zero, i.size, i.bytes)) = some (some z, k.sz, bytes)) (hz : z.cells.size = k.sz) (hs0 : 0 < k.sz) (hb0 : 0 < bytes)
    (xs : List α) (p : α) (cs : List Value) (hs : a.eval s = v) (hx : a.eval x = .slice (some ⟨W.heap.size, 0, none⟩) 1 1) (hp : k.M W w0.heap.size (fun _ => False) p cs)
    (HO : k.R e W w0.heap.size (fun _ => True) v xs) (HB : Below w0.heap.size w0 W) (hl : (xs.length + 1) * bytes ≤ 140737488355328)
    (h : ∀ a' v1 w1, k.R e w1 w0.heap.size (fun _ => True) v1 (xs ++ [p]) → Below w0.heap.size w0 w1 → W.grownBy w1 v.ownBlock → (v1.ownBlock = v.ownBlock ∨ ∃ b, v1.ownBlock = some b ∧ W.heap.size ≤ b) → Fr a' N ((d, v1) :: L) → wpList P ops Q rest a' w1) :
    wpList P ops Q (o :: rest) a (W.alloc (.cells cs.toArray e)) := by
  refine Kd.R_append k (w0 := w0) w0.heap.size hg s x t e z bytes ho ht hinfo hz hs0 hb0 v xs p cs (fun _ => True) (fun _ => False) hs hx hp (fun _ hk => hk.elim) (fun _ _ => trivial) HO HB HB.size hl ?_
  intro v1 w1 h1 h2 h3 h4
  rw [hd]
  exact h _ v1 w1 h1 h2 h3 h4 (hF.put hN v1)
/-- append of a row's elements. -/
theorem s_appendr {α : Type} (k : Kd α) {w0 W : World} (hF : Fr a N L) (hw : Region.wanted o (yielded ops a.tmps) = true) (hd : o.dst = some d) (hN : Nat.blt d N = true) (s x : Operand) (t e : TypeId) (z : Value) (bytes : Nat)
    (ho : o.op = .call { callee := .builtin .append, args := #[s, x], argTypes := #[t, t] })
    (ht : P.underlying t = some (.slice e)) (hinfo : (P.info? e).map (fun i => (i.zero, i.size, i.bytes)) = some (some z, k.sz, bytes)) (hz : z.cells.size = k.sz) (hs0 : 0 < k.sz) (hb0 : 0 < bytes)
    (xs ys : List α) {A : Option Addr} {m c : Nat} (hs : a.eval s = v) (hx : a.eval x = .slice A m c)
    (HO : k.R e W w0.heap.size (fun _ => True) v xs) (HR : k.C W A m ys) (hKM : ∀ (x : α) cs, k.K W x cs → k.M W w0.heap.size (fun _ => False) x cs) (HB : Below w0.heap.size w0 W) (hl : (xs.length + ys.length) * bytes ≤ 140737488355328)
    (h : ∀ a' v1 w1, k.R e w1 w0.heap.size (fun _ => True) v1 (xs ++ ys) → Below w0.heap.size w0 w1 → W.grownBy w1 v.ownBlock → (v1.ownBlock = v.ownBlock ∨ ∃ b, v1.ownBlock = some b ∧ W.heap.size ≤ b) → Fr a' N ((d, v1) :: L) → wpList P ops Q rest a' w1) :
    wpList P ops Q (o :: rest) a W := by
  refine wpList_step fun K hK => ?_
  refine Kd.R_append_rows_step k (w0 := w0) w0.heap.size hw s x t e z bytes ho ht hinfo hz hs0 hb0 v xs ys A m c (fun _ => True) (fun _ => False) hs hx HO HR hKM (fun _ hk => hk.elim) (fun _ _ => trivial) HB HB.size (by rw [← HR.1]; exact hl) ?_
  intro v1 w1 h1 h2 h3 h4
  rw [hd]
  exact hK _ _ (h _ v1 w1 h1 h2 h3 h4 (hF.put hN v1))
theorem lim2_of {n m b L : Nat} (h : n + m < L) (hL : L * b ≤ 140737488355328) : (n + m) * b ≤ 140737488355328 := Nat.le_trans (Nat.mul_le_mul_right b (Nat.le_of_lt h)) hL
theorem lim_of {n b L : Nat} (h : n < L) (hL : L * b ≤ 140737488355328) : (n + 1) * b ≤ 140737488355328 := Nat.le_trans (Nat.mul_le_mul_right b h) hL
end
theorem R_grown1 {α β : Type} {d : Kd α} {d' : Kd β} {e e' base : Nat} {w w1 : World} {v u : Value} {xs : List α} {ys : List β} (h : d.R e w base (fun _ => True) v xs) (hu : d'.R e' w base (fun _ => True) u ys) (ht : ∀ q, q ∈ e :: d.E → q ≠ e') (hG : w.grownBy w1 u.ownBlock) : d.R e w1 base (fun _ => True) v xs :=
  Kd.R_mono (Kd.R_grown (Kd.R_apartR h hu ht) hG (fun _ hk => hk.2)) (fun _ _ => trivial)
/-- Two rows of the call's own don't share their block. -/
def Apart (v1 v2 : Value) : Prop := ∀ k, v1.ownBlock = some k → v2.ownBlock = some k → False
section
variable {α β : Type} {d : Kd α} {d' : Kd β} {e e' base base' : Nat} {ok ok' : Nat → Prop} {w w1 : World} {v v' u : Value} {xs : List α} {ys : List β}
theorem R_lt (h : d.R e w base ok v xs) : ∀ k, v.ownBlock = some k → k < w.heap.size := fun k hk => by
  obtain ⟨inner, hi⟩ := Kd.R_own h
  exact Go.Proofs.YtndijkndllpkgaaDoorW.PrintWords.own_lt hi k hk
theorem R_ge (h : d.R e w base ok v xs) : ∀ k, v.ownBlock = some k → base ≤ k := fun k hk => by
  obtain ⟨inner, hi⟩ := Kd.R_own h
  exact Go.Proofs.YtndijkndllpkgaaDoorW.PrintWords.own_base hi k hk
theorem Apart.symm (h : Apart v u) : Apart u v := fun k h1 h2 => h k h2 h1
theorem apart_new (h : d.R e w base ok v xs) (h' : d'.R e' w1 w.heap.size ok' u ys) : Apart v u := fun k h1 h2 => Nat.lt_irrefl _ (Nat.lt_of_lt_of_le (R_lt h k h1) (R_ge h' k h2))
theorem apart_app (hA : Apart v u) (h : d.R e w base ok v xs) (hO : v'.ownBlock = u.ownBlock ∨ ∃ b, v'.ownBlock = some b ∧ w.heap.size ≤ b) : Apart v v' := fun k h1 h2 => by
  rcases hO with hO | ⟨b, hb, hle⟩
  · exact hA k h1 (hO ▸ h2)
  · rw [hb] at h2
    cases h2
    exact Nat.lt_irrefl _ (Nat.lt_of_lt_of_le (R_lt h k h1) hle)
theorem apart_nil (h : d.R e w base ok v xs) (hO : v'.ownBlock = (Value.slice none 0 0).ownBlock ∨ ∃ b, v'.ownBlock = some b ∧ w.heap.size ≤ b) : Apart v v' := apart_app (fun k _ h2 => by cases h2) h hO
theorem R_grownA (h : d.R e w base ok v xs) (hE : d.E = []) (hA : Apart v u) (hG : w.grownBy w1 u.ownBlock) : d.R e w1 base ok v xs := Kd.R_grown2 h hE hG (fun k hk hv => hA k hv.symm hk)
end
theorem own_lit {w : World} {L : List Value} {n : Nat} (h : L.length = n) (hn : n ≤ maxLen) (T : TypeId) : (w.alloc (.cells L.toArray T)).ownsRow w.heap.size T 1 (.slice (some ⟨w.heap.size, 0, none⟩) n n) n L := by
  refine ⟨by omega, .inr ⟨w.heap.size, n, L.toArray, rfl, Nat.le_refl _, ?_, Nat.le_refl _, hn, by simp [h], by simp [← h]⟩⟩
  show (w.heap.push _)[w.heap.size]? = _
  exact Array.getElem?_push_size
theorem own_litS {w : World} {L : List Value} {n s : Nat} (h : L.length = n * s) (hn : n ≤ maxLen) (T : TypeId) : (w.alloc (.cells L.toArray T)).ownsRow w.heap.size T s (.slice (some ⟨w.heap.size, 0, none⟩) n n) n L := by
  refine ⟨by omega, .inr ⟨w.heap.size, n, L.toArray, rfl, Nat.le_refl _, ?_, Nat.le_refl _, hn, by simp [h], by simp [← h]⟩⟩
  show (w.heap.push _)[w.heap.size]? = _
  exact Array.getElem?_push_size
theorem reps_nil {α : Type} {R : α → List Value → Prop} {s : Nat} : Reps R s [] [] := ⟨by simp, fun j p hj => by cases hj⟩
/-- A literal row. -/
theorem R_litM {α : Type} {d : Kd α} {w : World} (xs : List α) (cs : List Value) (T : TypeId) {n : Nat} (h : xs.length = n) (hn : n ≤ 1000000) (hr : ∀ (W : World) (ok : Nat → Prop), Reps (d.M W w.heap.size ok) d.sz xs cs) : d.R T (w.alloc (.cells cs.toArray T)) w.heap.size (fun _ => True) (.slice (some ⟨w.heap.size, 0, none⟩) n n) xs := by
  subst h
  refine ⟨fun _ _ => trivial, cs, own_litS (hr w (fun _ => True)).1 (by unfold maxLen; omega) T, hr _ _⟩
theorem R_lit {α : Type} {enc : α → Value} {h1 : ∀ x, (enc x).oneCell' = true} {w : World} (xs : List α) (T : TypeId) {n : Nat} (h : xs.length = n) (hn : n ≤ 1000000) : (Kd.scalar enc h1).R T (w.alloc (.cells (xs.map enc).toArray T)) w.heap.size (fun _ => True) (.slice (some ⟨w.heap.size, 0, none⟩) n n) xs := by
  subst h
  exact Kd.R_of_own (by simpa [encs] using own_lit (w := w) (L := xs.map enc) (by simp) (by unfold maxLen; omega) T) (fun _ _ => trivial)

/-! ### a region of open order: the frame by what is listed -/
structure FrB (a : Act) (N : Nat) (b : Nat → Bool) (L : List (Nat × Value)) (C D : List (Nat × Nat × Value)) : Prop where
  fr : Fr a N L
  on : ∀ e ∈ C, b e.1 = true → a.tmps[e.2.1]? = some e.2.2
  off : ∀ e ∈ D, b e.1 = false → a.tmps[e.2.1]? = some e.2.2
section
variable {a : Act} {N i d t : Nat} {b : Nat → Bool} {L L0 L' : List (Nat × Value)} {C C' D : List (Nat × Nat × Value)} {v v0 : Value}
def KeepsD (L : List (Nat × Value)) : List (Nat × Nat × Value) → Prop
  | [] => True
  | e :: r => look L e.2.1 = some e.2.2 ∧ KeepsD L r
theorem keepsD_mem : ∀ {D : List (Nat × Nat × Value)}, KeepsD L D → ∀ e ∈ D, look L e.2.1 = some e.2.2
  | [], _, _, h => by cases h
  | x :: r, hk, e, h => by
    rcases List.mem_cons.1 h with rfl | h
    · exact hk.1
    · exact keepsD_mem hk.2 e h
theorem FrB.start (h : Fr a N L0) (hL : Keeps L0 L) (hD : KeepsD L0 D) : FrB a N (fun _ => false) L C D := ⟨h.pick hL, (fun _ _ hh => by cases hh), fun e he _ => h.get _ _ (keepsD_mem hD e he)⟩
theorem look_mem : ∀ {L : List (Nat × Value)}, look L t = some v → ∃ e ∈ L, e.1 = t
  | [], h => by cases h
  | e :: r, h => by
    unfold look at h
    cases hb : Nat.beq e.1 t with
    | true => exact ⟨e, List.mem_cons_self, Nat.eq_of_beq_eq_true hb⟩
    | false =>
      rw [hb, cond_false] at h
      obtain ⟨x, hx, hxe⟩ := look_mem h
      exact ⟨x, List.mem_cons_of_mem _ hx, hxe⟩
theorem put_other {v : Value} (h : d ≠ t) : (a.put (some d) v).tmps[t]? = a.tmps[t]? := by simp [Act.put, Array.getElem?_setIfInBounds_ne h]
theorem FrB.put (h : FrB a N b L C D) (k : Nat) (hb : b i = false) (hk : C[k]? = some (i, d, v0)) (hC : C.set k (i, d, v) = C') (hc : ((C.take k ++ C.drop (k + 1)).all fun e => !(e.1 == i) && !(e.2.1 == d)) = true)
    (hL : (L.all fun e => !(Nat.beq e.1 d)) = true) (hD : (D.all fun e => e.1 == i || !(e.2.1 == d)) = true) (hd : Nat.blt d N = true) : FrB (a.put (some d) v) N (up b i) L C' D := by
  have hd' : d < a.tmps.size := by rw [h.fr.size]; exact Nat.le_of_ble_eq_true hd
  refine ⟨⟨by simp [Act.put, h.fr.size], h.fr.nodef, fun t u hu => ?_⟩, fun e he hbe => ?_, fun e he hbe => ?_⟩
  · obtain ⟨x, hx, rfl⟩ := look_mem hu
    have h1 := List.all_eq_true.1 hL x hx
    have : d ≠ x.1 := fun e => by rw [e] at h1; simp at h1
    rw [put_other this]
    exact h.fr.get _ _ hu
  · have hkl := (List.getElem?_eq_some_iff.1 hk).1
    rw [← hC, List.set_eq_take_append_cons_drop, if_pos hkl] at he
    rcases List.mem_append.1 he with he1 | he1
    · have h2 := List.all_eq_true.1 hc e (List.mem_append_left _ he1)
      simp only [Bool.and_eq_true, Bool.not_eq_true', beq_eq_false_iff_ne] at h2
      rw [put_other (Ne.symm h2.2)]
      rw [up_ne h2.1] at hbe
      exact h.on e (List.mem_of_mem_take he1) hbe
    · rcases List.mem_cons.1 he1 with rfl | he1
      · simp [Act.put, hd']
      · have h2 := List.all_eq_true.1 hc e (List.mem_append_right _ he1)
        simp only [Bool.and_eq_true, Bool.not_eq_true', beq_eq_false_iff_ne] at h2
        rw [put_other (Ne.symm h2.2)]
        rw [up_ne h2.1] at hbe
        exact h.on e (List.mem_of_mem_drop he1) hbe
  · have hne : e.1 ≠ i := fun x => by rw [x, up_self] at hbe; cases hbe
    rw [up_ne hne] at hbe
    have h2 := List.all_eq_true.1 hD e he
    have hs : e.2.1 ≠ d := by
      rw [Bool.or_eq_true] at h2
      rcases h2 with h2 | h2
      · exact absurd (by simpa using h2) hne
      · simpa using h2
    rw [put_other (Ne.symm hs)]
    exact h.off e he hbe
def Was (b : Nat → Bool) : List (Nat × Nat × Value) → List (Nat × Nat × Value) → Prop
  | [], [] => True
  | e :: r, e' :: r' => (e = e' ∨ b e'.1 = false) ∧ Was b r r'
  | _, _ => False
theorem was_mem {b : Nat → Bool} : ∀ {C C' : List (Nat × Nat × Value)}, Was b C C' → ∀ e ∈ C', e ∈ C ∨ b e.1 = false
  | [], [], _, e, he => by cases he
  | x :: r, x' :: r', h, e, he => by
    rcases List.mem_cons.1 he with rfl | he
    · rcases h.1 with h1 | h1
      · exact .inl (h1 ▸ List.mem_cons_self)
      · exact .inr h1
    · rcases was_mem h.2 e he with h2 | h2
      · exact .inl (List.mem_cons_of_mem _ h2)
      · exact .inr h2
  | [], _ :: _, h, _, _ => h.elim
  | _ :: _, [], h, _, _ => h.elim
/-- What is not yet done may be told otherwise. -/
theorem FrB.turn (h : FrB a N b L C D) (hw : Was b C C') : FrB a N b L C' D :=
  ⟨h.fr, fun e he hbe => (was_mem hw e he).elim (fun h1 => h.on e h1 hbe) (fun h1 => by rw [h1] at hbe; cases hbe), h.off⟩
theorem FrB.none (h : FrB a N b L C D) (hc : (C.all fun e => !(e.1 == i)) = true) (v : Value) : FrB (a.put none v) N (up b i) L C D := by
  refine ⟨h.fr, fun e he hbe => ?_, fun e he hbe => ?_⟩
  · have h2 := List.all_eq_true.1 hc e he
    have hne : e.1 ≠ i := by simpa using h2
    rw [up_ne hne] at hbe
    exact h.on e he hbe
  · have hne : e.1 ≠ i := fun x => by rw [x, up_self] at hbe; cases hbe
    rw [up_ne hne] at hbe
    exact h.off e he hbe
theorem FrB.t_on (h : FrB a N b L C D) (k : Nat) (hk : C[k]? = some (i, t, v)) (hb : b i = true) : a.tmps[t]? = some v := h.on (i, t, v) (List.mem_of_getElem? hk) hb
theorem FrB.t_off (h : FrB a N b L C D) (k : Nat) (hk : D[k]? = some (i, t, v)) (hb : b i = false) : a.tmps[t]? = some v := h.off (i, t, v) (List.mem_of_getElem? hk) hb
theorem FrB.t_in (h : FrB a N b L C D) (hl : look L t = some v) : a.tmps[t]? = some v := h.fr.get t v hl
theorem look_app : ∀ {C : List (Nat × Nat × Value)} {t : Nat} {v : Value}, look (C.map (fun e => e.2) ++ L) t = some v → (∃ e ∈ C, e.2 = (t, v)) ∨ look L t = some v
  | [], _, _, h => .inr h
  | e :: r, t, v, h => by
    rw [List.map_cons, List.cons_append] at h
    unfold look at h
    cases hb : Nat.beq e.2.1 t with
    | true =>
      rw [hb, cond_true] at h
      have h1 : e.2.1 = t := Nat.eq_of_beq_eq_true hb
      refine .inl ⟨e, List.mem_cons_self, ?_⟩
      rw [← h1, ← Option.some.inj h]
    | false =>
      rw [hb, cond_false] at h
      rcases look_app h with ⟨x, hx, hxe⟩ | h
      · exact .inl ⟨x, List.mem_cons_of_mem _ hx, hxe⟩
      · exact .inr h
theorem FrB.done (h : FrB a N b L C D) (hall : ∀ e ∈ C, b e.1 = true) (hL : C.map (fun e => e.2) ++ L = L') : Fr a N L' := by
  subst hL
  refine ⟨h.fr.size, h.fr.nodef, fun t v hl => ?_⟩
  rcases look_app hl with ⟨e, he, hx⟩ | hl
  · have := h.on e he (hall e he)
    rw [hx] at this
    exact this
  · exact h.fr.get t v hl
theorem lkt {x : Option Value} {T u : Bool} (h : x = some (.bool T)) (hT : T = u) : x = some (.bool u) := hT ▸ h
theorem all_of {b : Nat → Bool} : ∀ {C : List (Nat × Nat × Value)} {O : List Nat}, (∀ j, O.contains j = true → b j = true) → (C.all fun e => O.contains e.1) = true → ∀ e ∈ C, b e.1 = true := fun h hc e he => h _ (List.all_eq_true.1 hc e he)
end
end Go.Proofs.YtndijkndllpkgaaDoor.X
/- A function's plain form and the walk that shows it: written by a program of this session (wip/mkprint.py) out of the translation; Lean checks it. -/
namespace Go.Proofs.YtndijkndllpkgaaDoor.Pr
open Go.RowKit Go.Proofs.YtndijkndllpkgaaDoorW.PrintWords Go.Proofs.YtndijkndllpkgaaDoorW.PrintLast Go.Proofs.YtndijkndllpkgaaDoorW.PrintMore
set_option linter.unusedVariables false
set_option linter.unusedSimpArgs false

def errW : Option Int → Value
  | none => .nilIface
  | some c => .iface 0 (.int .i64 c)
theorem errW_none : errW none = .nilIface := rfl
theorem errW_some (c : Int) : errW (some c) = .iface 0 (.int .i64 c) := rfl

theorem info5 : (Tryd.prog.info? 5).map (fun i => (i.zero, i.size, i.bytes)) = some (some (.int .u8 0), 1, 1) := by kernel_rfl
-- the values' own types

end Go.Proofs.YtndijkndllpkgaaDoor.Pr
/- direct.forms: what the map of the six looks holds, in whatever order it was filled; lookups in it. -/
namespace Go.Proofs.YtndijkndllpkgaaDoor.Frm
open Go.RowKit Go.Proofs.YtndijkndllpkgaaDoorW.PrintWords

def keyV (o k : Int) : Value := .agg #[.int .i64 o, .int .i64 k]
def opS (o : Int) : ByteArray := if o = 1 then ⟨#[97]⟩ else if o = 2 then ⟨#[100]⟩ else ⟨#[99]⟩
def kdS (k : Int) : ByteArray := if k = 1 then ⟨#[99, 111, 110, 116, 97, 99, 116]⟩ else ⟨#[114, 97, 110, 103, 101]⟩
def capsOf (B : Nat) (o k : Int) : Array Value := if k = 1 then #[] else if o = 2 then #[] else #[.pointer (some ⟨B, 0, none⟩)]
def numOf (o k : Int) : FuncId :=
  if k = 1 then (if o = 1 then 52 else if o = 2 then 50 else 51)
  else (if o = 1 then 55 else if o = 2 then 53 else 54)
def fnV (B : Nat) (o k : Int) : Value := .func (.func (numOf o k)) #[] (capsOf B o k)
def valV (B : Nat) (o k : Int) : Value := .agg #[.string (opS o), .string (kdS k), fnV B o k]
def pairs : List (Int × Int) := [(1, 1), (2, 1), (3, 1), (1, 2), (2, 2), (3, 2)]
def ents (B : Nat) : Nat → List (Int × Int) → List MapEntry
  | _, [] => []
  | n, p :: r => { key := keyV p.1 p.2, val := valV B p.1 p.2, born := n } :: ents B (n + 1) r

theorem ents_length (B : Nat) : ∀ (l : List (Int × Int)) (n : Nat), (ents B n l).length = l.length
  | [], _ => rfl
  | p :: r, n => by simp [ents, ents_length B r]

theorem ents_append (B : Nat) : ∀ (l : List (Int × Int)) (n : Nat) (p : Int × Int), ents B n (l ++ [p]) = ents B n l ++ [{ key := keyV p.1 p.2, val := valV B p.1 p.2, born := n + l.length }]
  | [], n, p => by simp [ents]
  | q :: r, n, p => by
    simp only [List.cons_append, ents, ents_append B r, List.length_cons]
    rw [show n + 1 + r.length = n + (r.length + 1) by omega]

theorem ents_mem (B : Nat) : ∀ (l : List (Int × Int)) (n : Nat) (e : MapEntry), e ∈ ents B n l → ∃ p ∈ l, e.key = keyV p.1 p.2 ∧ e.val = valV B p.1 p.2 ∧ n ≤ e.born ∧ e.born < n + l.length
  | [], _, _, h => by cases h
  | p :: r, n, e, h => by
    rcases List.mem_cons.1 h with rfl | h
    · exact ⟨p, List.mem_cons_self, rfl, rfl, Nat.le_refl _, by simp⟩
    · obtain ⟨q, hq, h1, h2, h3, h4⟩ := ents_mem B r (n + 1) e h
      exact ⟨q, List.mem_cons_of_mem _ hq, h1, h2, by omega, by simp; omega⟩

theorem ents_nodup (B : Nat) : ∀ (l : List (Int × Int)) (n : Nat), ((ents B n l).map (·.born)).Nodup
  | [], _ => List.nodup_nil
  | p :: r, n => by
    simp only [ents, List.map_cons, List.nodup_cons]
    refine ⟨fun h => ?_, ents_nodup B r (n + 1)⟩
    obtain ⟨e, he, h2⟩ := List.mem_map.1 h
    have := (ents_mem B r (n + 1) e he)
    obtain ⟨_, _, _, _, h3, _⟩ := this
    omega

theorem eqKey (w : World) (o k o' k' : Int) : (Op.equal 60 (keyV o k) (keyV o' k')).run Tryd.prog w = .ok (o == o' && (k == k')) w := by
  unfold Op.equal Op.maxDepth keyV
  refine eqA_of (P := Tryd.prog) (d := 9999) Tryd.underlying60 (by kernel_rfl) ?_
  refine eqf_cons (by rfl) (by go_simp; rfl) (by go_simp; rfl) (by go_simp) ?_
  exact eqf_last (by rfl) (by go_simp; rfl) (by go_simp; rfl) (by go_simp)

theorem findAsking_ents (B : Nat) (o k : Int) (w : World) : ∀ (l : List (Int × Int)) (n i : Nat),
    ∃ r, (Instr.findAsking 60 (keyV o k) (ents B n l) i).run Tryd.prog w = .ok r w ∧ ((o, k) ∈ l → ∃ j, r = some (j, valV B o k)) ∧ ((o, k) ∉ l → r = none)
  | [], n, i => ⟨none, rfl, (fun h => by cases h), fun _ => rfl⟩
  | p :: r, n, i => by
    obtain ⟨p1, p2⟩ := p
    simp only [ents, Instr.findAsking, Sem.run_bind, eqKey, Result.andThen_ok]
    by_cases h : o = p1 ∧ k = p2
    · obtain ⟨rfl, rfl⟩ := h
      refine ⟨some (i, valV B o k), ?_, fun _ => ⟨i, rfl⟩, fun hn => absurd List.mem_cons_self hn⟩
      simp
    · have hb : (o == p1 && (k == p2)) = false := by
        cases hh : (o == p1 && (k == p2)) with
        | false => rfl
        | true => simp at hh; exact absurd hh h
      obtain ⟨x, h1, h2, h3⟩ := findAsking_ents B o k w r (n + 1) (i + 1)
      rw [hb]
      refine ⟨x, ?_, fun hm => ?_, fun hm => ?_⟩
      · simpa using h1
      · rcases List.mem_cons.1 hm with e | hm
        · cases e; exact absurd ⟨rfl, rfl⟩ h
        · exact h2 hm
      · exact h3 (fun h => hm (List.mem_cons_of_mem _ h))

theorem findKey_ents (B : Nat) (o k : Int) (w : World) (l : List (Int × Int)) (n : Nat) :
    ∃ r, (Instr.findKey 60 (keyV o k) (ents B n l)).run Tryd.prog w = .ok r w ∧ ((o, k) ∈ l → ∃ j, r = some (j, valV B o k)) ∧ ((o, k) ∉ l → r = none) := by
  cases l with
  | nil =>
    refine ⟨none, ?_, (fun h => by cases h), fun _ => rfl⟩
    simp only [Instr.findKey, ents, Sem.run_bind, run_underlying Tryd.underlying60, Result.andThen_ok, Instr.findNow, Sem.run_pure]
  | cons p r =>
    obtain ⟨x, h1, h2⟩ := findAsking_ents B o k w (p :: r) n 0
    refine ⟨x, ?_, h2⟩
    simp only [Instr.findKey, ents, Sem.run_bind, run_underlying Tryd.underlying60, Result.andThen_ok, Instr.findNow, Instr.sameNow]
    exact h1

theorem checkKey_d (w : World) (e : Bool) (o k : Int) (d : Nat) : (Instr.checkKey e (d + 1 + 1) 60 (keyV o k)).run Tryd.prog w = .ok () w := by
  unfold keyV
  simp [Instr.checkKey, run_underlying Tryd.underlying60, run_underlying Tryd.underlying3, go_sem]
theorem checkKey_key (w : World) (e : Bool) (o k : Int) : (Instr.checkKey e 10000 60 (keyV o k)).run Tryd.prog w = .ok () w := checkKey_d w e o k 9998

/-- A map's block changed. -/
theorem run_setMap {P : Program} {w : World} {b : Nat} {es : Array MapEntry} {c : Nat} (hb : w.heap[b]? = some (.map es c)) (o : Obj) : (setObj b o).run P w = .ok () (ChangeMaps.setBlock w b o) := by
  simp [setObj, Sem.run, hb, ChangeMaps.setBlock]

theorem insert_ents {w : World} {b B : Nat} {l : List (Int × Int)} (o k : Int) (hb : w.heap[b]? = some (.map (ents B 0 l).toArray l.length)) (hn : (o, k) ∉ l) :
    (Instr.mapUpdate 57 (.map (some b)) (keyV o k) (valV B o k)).run Tryd.prog w = .ok () (ChangeMaps.setBlock w b (.map (ents B 0 (l ++ [(o, k)])).toArray (l ++ [(o, k)]).length)) := by
  obtain ⟨r, h1, _, h3⟩ := findKey_ents B o k w l 0
  rw [h3 hn] at h1
  simp only [Instr.mapUpdate, Sem.run_bind, run_underlying Tryd.underlying57, Result.andThen_ok, getObj, Sem.run, hb, checkKey_key, h1]
  rw [run_setMap hb, ents_append]
  simp

/-- The six looks lie in block b, their box in block B. -/
structure FormsAt (w : World) (b B : Nat) : Prop where
  box : w.heap[B]? = some (.cells #[.func (.func 53) #[] #[]] 54 (0, 0))
  map : ∃ l : List (Int × Int), l.Nodup ∧ (∀ p, p ∈ l ↔ p ∈ pairs) ∧ w.heap[b]? = some (.map (ents B 0 l).toArray l.length)

theorem FormsAt.of_heap {w w' : World} {b B : Nat} (h : FormsAt w b B) (hb : w'.heap[b]? = w.heap[b]?) (hB : w'.heap[B]? = w.heap[B]?) : FormsAt w' b B :=
  ⟨hB.trans h.box, by obtain ⟨l, h1, h2, h3⟩ := h.map; exact ⟨l, h1, h2, hb.trans h3⟩⟩
theorem FormsAt.lt {w : World} {b B : Nat} (h : FormsAt w b B) : b < w.heap.size ∧ B < w.heap.size := by
  obtain ⟨l, _, _, h3⟩ := h.map
  exact ⟨(Array.getElem?_eq_some_iff.1 h3).1, (Array.getElem?_eq_some_iff.1 h.box).1⟩
theorem FormsAt.drew {w : World} {b B : Nat} (h : FormsAt w b B) : FormsAt w.drew b B := ⟨h.box, h.map⟩
theorem FormsAt.below {w w' : World} {b B N : Nat} (h : FormsAt w b B) (hw : Below N w w') (hb : b < N) (hB : B < N) : FormsAt w' b B := h.of_heap (hw.block b hb) (hw.block B hB)

/-- What a lookup yields: the look, or the zero look. -/
def lookV (B : Nat) (o k : Int) : Value := if (o, k) ∈ pairs then valV B o k else .agg #[.string ByteArray.empty, .string ByteArray.empty, .nilFunc]

theorem zero_form (w : World) : (zeroValue 56).run Tryd.prog w = .ok (.agg #[.string ByteArray.empty, .string ByteArray.empty, .nilFunc]) w := by
  go_simp
  rfl

theorem lookup_ok {w : World} {b B : Nat} (h : FormsAt w b B) (o k : Int) :
    (Instr.lookup 57 (.map (some b)) (keyV o k) true).run Tryd.prog w = .ok (.tuple #[lookV B o k, .bool (decide ((o, k) ∈ pairs))]) w := by
  obtain ⟨l, _, h2, h3⟩ := h.map
  obtain ⟨r, h4, h5, h6⟩ := findKey_ents B o k w l 0
  by_cases hp : (o, k) ∈ pairs
  · obtain ⟨j, hj⟩ := h5 ((h2 _).2 hp)
    rw [hj] at h4
    simp [Instr.lookup, Sem.run_bind, run_underlying Tryd.underlying57, Result.andThen_ok, getObj, Sem.run, h3, checkKey_key, h4, lookV, hp]
  · rw [h6 (fun hl => hp ((h2 _).1 hl))] at h4
    simp [Instr.lookup, Sem.run_bind, run_underlying Tryd.underlying57, Result.andThen_ok, getObj, Sem.run, h3, checkKey_key, h4, lookV, hp]
    rfl

theorem lookup_plain {w : World} {b B : Nat} (h : FormsAt w b B) (o k : Int) :
    (Instr.lookup 57 (.map (some b)) (keyV o k) false).run Tryd.prog w = .ok (lookV B o k) w := by
  obtain ⟨l, _, h2, h3⟩ := h.map
  obtain ⟨r, h4, h5, h6⟩ := findKey_ents B o k w l 0
  by_cases hp : (o, k) ∈ pairs
  · obtain ⟨j, hj⟩ := h5 ((h2 _).2 hp)
    rw [hj] at h4
    simp [Instr.lookup, Sem.run_bind, run_underlying Tryd.underlying57, Result.andThen_ok, getObj, Sem.run, h3, checkKey_key, h4, lookV, hp]
  · rw [h6 (fun hl => hp ((h2 _).1 hl))] at h4
    simp [Instr.lookup, Sem.run_bind, run_underlying Tryd.underlying57, Result.andThen_ok, getObj, Sem.run, h3, checkKey_key, h4, lookV, hp]
    rfl
end Go.Proofs.YtndijkndllpkgaaDoor.Frm
/- direct.forms and the closures that it hands out: the walks (printed by gen_frm.py of this session). -/
namespace Go.Proofs.YtndijkndllpkgaaDoor.Frm
open Go.RowKit Go.Proofs.YtndijkndllpkgaaDoorW.PrintWords Go.Proofs.YtndijkndllpkgaaDoorW.PrintLast Go.Proofs.YtndijkndllpkgaaDoorW.PrintMore
set_option linter.unusedVariables false
set_option linter.unusedSimpArgs false

def forms.T7 : Bool × List (List Nat × List Nat) := (true, [([], []), ([], []), ([], []), ([2], [2]), ([0, 1, 3], [0, 1, 3]), ([], []), ([], []), ([6], [6]), ([0, 5, 7], [0, 5, 7]), ([], []), ([], []), ([10], [10]), ([0, 9, 11], [0, 9, 11]), ([], []), ([], []), ([14], [14]), ([0, 13, 15], [0, 13, 15]), ([], []), ([], []), ([18], [18]), ([0, 17, 19], [0, 17, 19]), ([], []), ([], []), ([22], [22]), ([0, 21, 23], [0, 21, 23]), ([0, 1, 2, 3, 4, 5, 6, 7, 8, 9, 10, 11, 12, 13, 14, 15, 16, 17, 18, 19, 20, 21, 22, 23, 24], [0]), ([25, 0, 1, 2, 3, 4, 5, 6, 7, 8, 9, 10, 11, 12, 13, 14, 15, 16, 17, 18, 19, 20, 21, 22, 23, 24, 25], [25])])
def forms.B7 : List Nat := [0, 0, 0, 4, 15, 0, 0, 64, 225, 0, 0, 1024, 3585, 0, 0, 16384, 57345, 0, 0, 262144, 917505, 0, 0, 4194304, 14680065, 33554431, 67108863]
theorem forms.tab7 : rtab .any (opsOf Tryd.f36 7) = forms.T7 := by kernel_rfl
theorem forms.bits7 : waitsOk forms.T7.2 forms.B7 = true := by kernel_rfl

def insOf : Nat → Option (Int × Int) := fun i => if i = 4 then some (1, 1) else if i = 8 then some (2, 1) else if i = 12 then some (3, 1) else if i = 16 then some (1, 2) else if i = 20 then some (2, 2) else if i = 24 then some (3, 2) else none
/-- What is in the map so far. -/
structure Sofar (b : Nat → Bool) (bx bm base : Nat) (W w' : World) (l : List (Int × Int)) : Prop where
  nod : l.Nodup
  mem : ∀ q, q ∈ l ↔ ∃ i, insOf i = some q ∧ b i = true
  zero : b 0 = false → w' = W
  here : b 0 = true → w'.heap[bm]? = some (.map (ents bx 0 l).toArray l.length)
  box : w'.heap[bx]? = some (.cells #[.func (.func 53) #[] #[]] 54 (0, 0))
  bel : Below base W w'

theorem Sofar.same {b : Nat → Bool} {bx bm base : Nat} {W w' : World} {l : List (Int × Int)} (h : Sofar b bx bm base W w' l) {i : Nat} (h0 : i ≠ 0) (hi : insOf i = none) : Sofar (up b i) bx bm base W w' l := by
  refine ⟨h.nod, fun q => ?_, fun hz => h.zero (by rwa [up_ne (Ne.symm h0)] at hz), fun hz => h.here (by rwa [up_ne (Ne.symm h0)] at hz), h.box, h.bel⟩
  rw [h.mem]
  constructor
  · rintro ⟨j, h1, h2⟩
    refine ⟨j, h1, ?_⟩
    by_cases e : j = i
    · subst e; rw [hi] at h1; cases h1
    · rw [up_ne e]; exact h2
  · rintro ⟨j, h1, h2⟩
    refine ⟨j, h1, ?_⟩
    by_cases e : j = i
    · subst e; rw [hi] at h1; cases h1
    · rwa [up_ne e] at h2

theorem insOf_inj {i j : Nat} {q : Int × Int} (h1 : insOf i = some q) (h2 : insOf j = some q) : i = j := by
  unfold insOf at h1 h2
  (repeat' split at h1) <;> (repeat' split at h2) <;> simp_all <;> (subst h1; simp at h2)

theorem Sofar.made {b : Nat → Bool} {bx bm base : Nat} {W w' : World} {l : List (Int × Int)} (h : Sofar b bx bm base W w' l) (h0 : b 0 = false) (hoff : ∀ i q, insOf i = some q → b i = false) (hm : W.heap.size = bm) (hb : base ≤ bm) (hx : bx < bm) :
    l = [] ∧ w' = W ∧ Sofar (up b 0) bx bm base W (W.alloc (.map #[] 0)) [] := by
  have e := h.zero h0
  subst e
  have hl : l = [] := by
    refine List.eq_nil_iff_forall_not_mem.2 (fun q hq => ?_)
    obtain ⟨i, h1, h2⟩ := (h.mem q).1 hq
    rw [hoff i q h1] at h2; cases h2
  subst hl
  refine ⟨rfl, rfl, ⟨List.nodup_nil, fun q => ⟨(fun h => by cases h), ?_⟩, fun hz => ?_, fun _ => ?_, ?_, ?_⟩⟩
  · rintro ⟨i, h1, h2⟩
    have hi : i ≠ 0 := by rintro rfl; simp [insOf] at h1
    rw [up_ne hi, hoff i q h1] at h2; cases h2
  · rw [up_self] at hz; cases hz
  · subst hm
    show (w'.heap.push _)[w'.heap.size]? = _
    rw [Array.getElem?_push_size]; rfl
  · rw [Below.heap_alloc _ _ _ (by omega)]; exact h.box
  · exact (Below.refl _ _).alloc (by omega) _

theorem setBlock_other {w : World} {b i : Nat} (o : Obj) (h : i ≠ b) : (ChangeMaps.setBlock w b o).heap[i]? = w.heap[i]? := by
  simp [ChangeMaps.setBlock, Array.getElem?_setIfInBounds_ne (Ne.symm h)]

theorem Sofar.put {b : Nat → Bool} {bx bm base : Nat} {W w' : World} {l : List (Int × Int)} (h : Sofar b bx bm base W w' l) {i : Nat} {o k : Int} (hi : insOf i = some (o, k)) (h0 : b 0 = true) (hbi : b i = false) (hb : base ≤ bm) (hx : bx ≠ bm) :
    (Instr.mapUpdate 57 (.map (some bm)) (keyV o k) (valV bx o k)).run Tryd.prog w' = .ok () (ChangeMaps.setBlock w' bm (.map (ents bx 0 (l ++ [(o, k)])).toArray (l ++ [(o, k)]).length)) ∧
    Sofar (up b i) bx bm base W (ChangeMaps.setBlock w' bm (.map (ents bx 0 (l ++ [(o, k)])).toArray (l ++ [(o, k)]).length)) (l ++ [(o, k)]) := by
  have hn : (o, k) ∉ l := fun hm => by
    obtain ⟨j, h1, h2⟩ := (h.mem _).1 hm
    rw [insOf_inj h1 hi, hbi] at h2; cases h2
  have hi0 : i ≠ 0 := by rintro rfl; rw [h0] at hbi; cases hbi
  have hh := h.here h0
  have hlt := (Array.getElem?_eq_some_iff.1 hh).1
  refine ⟨insert_ents o k hh hn, ⟨?_, fun q => ?_, fun hz => ?_, fun _ => ?_, ?_, ?_⟩⟩
  · rw [List.nodup_append]; exact ⟨h.nod, by simp, fun x hx y hy => by simp at hy; subst hy; exact fun e => hn (e ▸ hx)⟩
  · rw [List.mem_append, h.mem]
    constructor
    · rintro (⟨j, h1, h2⟩ | h1)
      · exact ⟨j, h1, by by_cases e : j = i; · subst e; exact up_self _ _
                         · rw [up_ne e]; exact h2⟩
      · simp at h1; subst h1; exact ⟨i, hi, up_self _ _⟩
    · rintro ⟨j, h1, h2⟩
      by_cases e : j = i
      · subst e; rw [hi] at h1; cases h1; exact .inr (by simp)
      · rw [up_ne e] at h2; exact .inl ⟨j, h1, h2⟩
  · rw [up_ne (Ne.symm hi0), h0] at hz; cases hz
  · simp [ChangeMaps.setBlock, Array.getElem?_setIfInBounds_self_of_lt hlt]
  · rw [setBlock_other _ hx]; exact h.box
  · exact ⟨h.bel.os, h.bel.tape, h.bel.output, by simp [ChangeMaps.setBlock]; exact h.bel.size, fun j hj => by rw [setBlock_other _ (by omega)]; exact h.bel.block j hj⟩

theorem insert_run {P : Program} {a : Act} {o : Oper} {t : TypeId} {x y z : Tmp} {m k v : Value} {w w1 : World} (ho : o.op = .insert t (.tmp x) (.tmp y) (.tmp z)) (e1 : a.tmps[x]? = some m) (e2 : a.tmps[y]? = some k) (e3 : a.tmps[z]? = some v) (h : (Instr.mapUpdate t m k v).run P w = .ok () w1) : (execOp a.eval o).run P w = .ok .skip w1 := by
  unfold execOp
  simp [ho, eval_of e1, eval_of e2, eval_of e3, h]

set_option maxHeartbeats 4000000 in
theorem forms_calls (w : World) : Calls Tryd.prog 36 #[] w fun e w' => ∃ b B : Nat, e = .returned (.map (some b)) ∧ w.heap.size ≤ b ∧ w.heap.size ≤ B ∧ FormsAt w' b B ∧ Below w.heap.size w w' := by
  have hmf : ∀ (fn : Fn) (first cap : Array Value) (w : World), (Instr.makeFunc fn first cap).run Tryd.prog w = .ok (.func fn first cap) w := fun _ _ _ _ => rfl
  have hsf := fun (a : Addr) (w : World) => run_store Tryd.prog w a (.func (.func 53) #[] #[]) .plain rfl
  go_enter Tryd.func36, Tryd.ntmps36
  go_wp2_with fail
  refine start_ (n := 27) (S := fun w' => True) (ds := []) #[false, false, false, false, false, false, false, false, false, false, false, false, false, false, false, false, false, false, false, false, false, false, false, false, false, false, false] (by kernel_rfl) rfl rfl trivial (fun hHeld => ?_)
  refine with_tabW forms.tab7 forms.bits7 (fun HT_ HW_ => ?_)
  refine pure_ (i := 1) (N := some 10) (v := ?_) (a' := ?_) #[false, true, false, false, false, false, false, false, false, false, false, false, false, false, false, false, false, false, false, false, false, false, false, false, false, false, false] rfl rfl (any_of HT_.out (by kernel_rfl)) (fun _ _ _ h => h) (Or.inl ⟨by rfl, ?_⟩) ?_ ?_
  rotate_left
  · intro w'
    go_simp
    with_reducible rfl
  rotate_left
  · simp only [Act.put, List.setIfInBounds_toArray, List.set_cons_zero, List.set_cons_succ, i64_w, i32_w]
    rfl
  refine pure_ (i := 2) (N := some 11) (v := ?_) (a' := ?_) #[false, true, true, false, false, false, false, false, false, false, false, false, false, false, false, false, false, false, false, false, false, false, false, false, false, false, false] rfl rfl (any_of HT_.out (by kernel_rfl)) (fun _ _ _ h => h) (Or.inl ⟨by rfl, ?_⟩) ?_ ?_
  rotate_left
  · intro w'
    go_simp
    with_reducible rfl
  rotate_left
  · simp only [Act.put, List.setIfInBounds_toArray, List.set_cons_zero, List.set_cons_succ, i64_w, i32_w]
    rfl
  refine pure_ (i := 3) (N := some 12) (v := ?_) (a' := ?_) #[false, true, true, true, false, false, false, false, false, false, false, false, false, false, false, false, false, false, false, false, false, false, false, false, false, false, false] rfl rfl (any_of HT_.out (by kernel_rfl)) (fun _ _ _ h => h) (Or.inl ⟨by rfl, ?_⟩) ?_ ?_
  rotate_left
  · intro w'
    go_simp
    with_reducible rfl
  rotate_left
  · simp only [Act.put, List.setIfInBounds_toArray, List.set_cons_zero, List.set_cons_succ, i64_w, i32_w]
    rfl
  refine pure_ (i := 5) (N := some 13) (v := ?_) (a' := ?_) #[false, true, true, true, false, true, false, false, false, false, false, false, false, false, false, false, false, false, false, false, false, false, false, false, false, false, false] rfl rfl (any_of HT_.out (by kernel_rfl)) (fun _ _ _ h => h) (Or.inl ⟨by rfl, ?_⟩) ?_ ?_
  rotate_left
  · intro w'
    go_simp
    with_reducible rfl
  rotate_left
  · simp only [Act.put, List.setIfInBounds_toArray, List.set_cons_zero, List.set_cons_succ, i64_w, i32_w]
    rfl
  refine pure_ (i := 6) (N := some 14) (v := ?_) (a' := ?_) #[false, true, true, true, false, true, true, false, false, false, false, false, false, false, false, false, false, false, false, false, false, false, false, false, false, false, false] rfl rfl (any_of HT_.out (by kernel_rfl)) (fun _ _ _ h => h) (Or.inl ⟨by rfl, ?_⟩) ?_ ?_
  rotate_left
  · intro w'
    go_simp
    with_reducible rfl
  rotate_left
  · simp only [Act.put, List.setIfInBounds_toArray, List.set_cons_zero, List.set_cons_succ, i64_w, i32_w]
    rfl
  refine pure_ (i := 7) (N := some 15) (v := ?_) (a' := ?_) #[false, true, true, true, false, true, true, true, false, false, false, false, false, false, false, false, false, false, false, false, false, false, false, false, false, false, false] rfl rfl (any_of HT_.out (by kernel_rfl)) (fun _ _ _ h => h) (Or.inl ⟨by rfl, ?_⟩) ?_ ?_
  rotate_left
  · intro w'
    go_simp
    with_reducible rfl
  rotate_left
  · simp only [Act.put, List.setIfInBounds_toArray, List.set_cons_zero, List.set_cons_succ, i64_w, i32_w]
    rfl
  refine pure_ (i := 9) (N := some 16) (v := ?_) (a' := ?_) #[false, true, true, true, false, true, true, true, false, true, false, false, false, false, false, false, false, false, false, false, false, false, false, false, false, false, false] rfl rfl (any_of HT_.out (by kernel_rfl)) (fun _ _ _ h => h) (Or.inl ⟨by rfl, ?_⟩) ?_ ?_
  rotate_left
  · intro w'
    go_simp
    with_reducible rfl
  rotate_left
  · simp only [Act.put, List.setIfInBounds_toArray, List.set_cons_zero, List.set_cons_succ, i64_w, i32_w]
    rfl
  refine pure_ (i := 10) (N := some 17) (v := ?_) (a' := ?_) #[false, true, true, true, false, true, true, true, false, true, true, false, false, false, false, false, false, false, false, false, false, false, false, false, false, false, false] rfl rfl (any_of HT_.out (by kernel_rfl)) (fun _ _ _ h => h) (Or.inl ⟨by rfl, ?_⟩) ?_ ?_
  rotate_left
  · intro w'
    go_simp
    with_reducible rfl
  rotate_left
  · simp only [Act.put, List.setIfInBounds_toArray, List.set_cons_zero, List.set_cons_succ, i64_w, i32_w]
    rfl
  refine pure_ (i := 11) (N := some 18) (v := ?_) (a' := ?_) #[false, true, true, true, false, true, true, true, false, true, true, true, false, false, false, false, false, false, false, false, false, false, false, false, false, false, false] rfl rfl (any_of HT_.out (by kernel_rfl)) (fun _ _ _ h => h) (Or.inl ⟨by rfl, ?_⟩) ?_ ?_
  rotate_left
  · intro w'
    go_simp
    with_reducible rfl
  rotate_left
  · simp only [Act.put, List.setIfInBounds_toArray, List.set_cons_zero, List.set_cons_succ, i64_w, i32_w]
    rfl
  refine pure_ (i := 13) (N := some 19) (v := ?_) (a' := ?_) #[false, true, true, true, false, true, true, true, false, true, true, true, false, true, false, false, false, false, false, false, false, false, false, false, false, false, false] rfl rfl (any_of HT_.out (by kernel_rfl)) (fun _ _ _ h => h) (Or.inl ⟨by rfl, ?_⟩) ?_ ?_
  rotate_left
  · intro w'
    go_simp
    with_reducible rfl
  rotate_left
  · simp only [Act.put, List.setIfInBounds_toArray, List.set_cons_zero, List.set_cons_succ, i64_w, i32_w]
    rfl
  refine pure_ (i := 14) (N := some 20) (v := ?_) (a' := ?_) #[false, true, true, true, false, true, true, true, false, true, true, true, false, true, true, false, false, false, false, false, false, false, false, false, false, false, false] rfl rfl (any_of HT_.out (by kernel_rfl)) (fun _ _ _ h => h) (Or.inl ⟨by rfl, ?_⟩) ?_ ?_
  rotate_left
  · intro w'
    go_simp
    with_reducible rfl
  rotate_left
  · simp only [Act.put, List.setIfInBounds_toArray, List.set_cons_zero, List.set_cons_succ, i64_w, i32_w]
    rfl
  refine pure_ (i := 15) (N := some 21) (v := ?_) (a' := ?_) #[false, true, true, true, false, true, true, true, false, true, true, true, false, true, true, true, false, false, false, false, false, false, false, false, false, false, false] rfl rfl (any_of HT_.out (by kernel_rfl)) (fun _ _ _ h => h) (Or.inl ⟨by rfl, ?_⟩) ?_ ?_
  rotate_left
  · intro w'
    go_simp
    with_reducible rfl
  rotate_left
  · simp only [Act.put, List.setIfInBounds_toArray, List.set_cons_zero, List.set_cons_succ, i64_w, i32_w]
    rfl
  refine pure_ (i := 17) (N := some 22) (v := ?_) (a' := ?_) #[false, true, true, true, false, true, true, true, false, true, true, true, false, true, true, true, false, true, false, false, false, false, false, false, false, false, false] rfl rfl (any_of HT_.out (by kernel_rfl)) (fun _ _ _ h => h) (Or.inl ⟨by rfl, ?_⟩) ?_ ?_
  rotate_left
  · intro w'
    go_simp
    with_reducible rfl
  rotate_left
  · simp only [Act.put, List.setIfInBounds_toArray, List.set_cons_zero, List.set_cons_succ, i64_w, i32_w]
    rfl
  refine pure_ (i := 21) (N := some 25) (v := ?_) (a' := ?_) #[false, true, true, true, false, true, true, true, false, true, true, true, false, true, true, true, false, true, false, false, false, true, false, false, false, false, false] rfl rfl (any_of HT_.out (by kernel_rfl)) (fun _ _ _ h => h) (Or.inl ⟨by rfl, ?_⟩) ?_ ?_
  rotate_left
  · intro w'
    go_simp
    with_reducible rfl
  rotate_left
  · simp only [Act.put, List.setIfInBounds_toArray, List.set_cons_zero, List.set_cons_succ, i64_w, i32_w]
    rfl
  refine pure_ (i := 22) (N := some 26) (v := ?_) (a' := ?_) #[false, true, true, true, false, true, true, true, false, true, true, true, false, true, true, true, false, true, false, false, false, true, true, false, false, false, false] rfl rfl (any_of HT_.out (by kernel_rfl)) (fun _ _ _ h => h) (Or.inl ⟨by rfl, ?_⟩) ?_ ?_
  rotate_left
  · intro w'
    go_simp
    with_reducible rfl
  rotate_left
  · simp only [Act.put, List.setIfInBounds_toArray, List.set_cons_zero, List.set_cons_succ, i64_w, i32_w]
    rfl
  refine pure_ (i := 23) (N := some 27) (v := ?_) (a' := ?_) #[false, true, true, true, false, true, true, true, false, true, true, true, false, true, true, true, false, true, false, false, false, true, true, true, false, false, false] rfl rfl (any_of HT_.out (by kernel_rfl)) (fun _ _ _ h => h) (Or.inl ⟨by rfl, ?_⟩) ?_ ?_
  rotate_left
  · intro w'
    go_simp
    with_reducible rfl
  rotate_left
  · simp only [Act.put, List.setIfInBounds_toArray, List.set_cons_zero, List.set_cons_succ, i64_w, i32_w]
    rfl
  have hW0 : (w.alloc (Obj.cells #[Value.func (Fn.func 53) #[] #[]] 54)).drew.heap.size = w.heap.size + 1 := by simp
  have hbx : (w.alloc (Obj.cells #[Value.func (Fn.func 53) #[] #[]] 54)).drew.heap[w.heap.size]? = some (.cells #[.func (.func 53) #[] #[]] 54 (0, 0)) := Array.getElem?_push_size
  have hbl : Below w.heap.size w (w.alloc (Obj.cells #[Value.func (Fn.func 53) #[] #[]] 54)).drew := ((Below.refl _ _).alloc (Nat.le_refl _) _).drew
  generalize (w.alloc (Obj.cells #[Value.func (Fn.func 53) #[] #[]] 54)).drew = W0 at hW0 hbx hbl ⊢
  clear hmf hsf hHeld
  refine inv_at [0, 4, 8, 12, 16, 18, 19, 20, 24, 25, 26] (fun a0_ b a w' => ∃ l : List (Int × Int), a = putSel a0_ b [(0, 9, .map (some (w.heap.size + 1))), (18, 23, .func (.func 53) #[] #[]), (19, 24, valV w.heap.size 2 2), (25, 28, .map (some (w.heap.size + 1))), (26, 0, .map (some (w.heap.size + 1)))] ∧ Sofar b w.heap.size (w.heap.size + 1) w.heap.size W0 w' l) HT_.out HW_.out (by kernel_rfl) (by kernel_rfl) ?_ ?_ ?_
  · exact ⟨[], by simp only [putSel, Bool.false_eq_true, if_false], ⟨List.nodup_nil, fun q => ⟨(fun h => by cases h), (fun ⟨_, _, h⟩ => by cases h)⟩, fun _ => rfl, (fun h => by cases h), hbx, Below.refl _ _⟩⟩
  · skip
    refine steps_cons ?_ ?_
    · rintro b a w' ⟨l, ha, hs⟩ hb_ hon hoff
      refine ⟨_, rfl, fun K hK => ?_⟩
      obtain ⟨rfl, rfl, hs'⟩ := hs.made hb_ (fun j q hq => by unfold insOf at hq; (repeat' split at hq) <;> first | (cases hq; done) | (subst_vars; exact hoff _ (by kernel_rfl))) hW0 (by omega) (by omega)
      refine value_ (w1 := w'.alloc (.map #[] 0)) (v := .map (some (w.heap.size + 1))) (by rfl) rfl ?_ ?_
      · rw [← hW0]; rfl
      exact hK.out _ _ ⟨[], (by rw [ha]; exact putSel_upk 0 hb_ rfl rfl rfl), hs'⟩
    refine steps_cons ?_ ?_
    · rintro b a w' ⟨l, ha, hs⟩ hb_ hon hoff
      refine ⟨_, rfl, fun K hK => ?_⟩
      have e9 : a.tmps[9]? = some (.map (some (w.heap.size + 1))) := by rw [ha]; exact putSel_on (e := (0, 9, .map (some (w.heap.size + 1)))) 0 rfl rfl (hon 0 (by kernel_rfl)) rfl
      have e10 : a.tmps[10]? = some (keyV 1 1) := by rw [ha]; exact (putSel_off rfl).trans rfl
      have e12 : a.tmps[12]? = some (valV w.heap.size 1 1) := by rw [ha]; exact (putSel_off rfl).trans rfl
      obtain ⟨h1, h2⟩ := hs.put (i := 4) (o := 1) (k := 1) (by rfl) (hon 0 (by kernel_rfl)) hb_ (by omega) (by omega)
      refine skip_ (by rfl) rfl (insert_run rfl e9 e10 e12 h1) ?_
      exact hK.out _ _ ⟨_, (by rw [ha]; exact putSel_none (v := undef) rfl), h2⟩
    refine steps_cons ?_ ?_
    · rintro b a w' ⟨l, ha, hs⟩ hb_ hon hoff
      refine ⟨_, rfl, fun K hK => ?_⟩
      have e9 : a.tmps[9]? = some (.map (some (w.heap.size + 1))) := by rw [ha]; exact putSel_on (e := (0, 9, .map (some (w.heap.size + 1)))) 0 rfl rfl (hon 0 (by kernel_rfl)) rfl
      have e13 : a.tmps[13]? = some (keyV 2 1) := by rw [ha]; exact (putSel_off rfl).trans rfl
      have e15 : a.tmps[15]? = some (valV w.heap.size 2 1) := by rw [ha]; exact (putSel_off rfl).trans rfl
      obtain ⟨h1, h2⟩ := hs.put (i := 8) (o := 2) (k := 1) (by rfl) (hon 0 (by kernel_rfl)) hb_ (by omega) (by omega)
      refine skip_ (by rfl) rfl (insert_run rfl e9 e13 e15 h1) ?_
      exact hK.out _ _ ⟨_, (by rw [ha]; exact putSel_none (v := undef) rfl), h2⟩
    refine steps_cons ?_ ?_
    · rintro b a w' ⟨l, ha, hs⟩ hb_ hon hoff
      refine ⟨_, rfl, fun K hK => ?_⟩
      have e9 : a.tmps[9]? = some (.map (some (w.heap.size + 1))) := by rw [ha]; exact putSel_on (e := (0, 9, .map (some (w.heap.size + 1)))) 0 rfl rfl (hon 0 (by kernel_rfl)) rfl
      have e16 : a.tmps[16]? = some (keyV 3 1) := by rw [ha]; exact (putSel_off rfl).trans rfl
      have e18 : a.tmps[18]? = some (valV w.heap.size 3 1) := by rw [ha]; exact (putSel_off rfl).trans rfl
      obtain ⟨h1, h2⟩ := hs.put (i := 12) (o := 3) (k := 1) (by rfl) (hon 0 (by kernel_rfl)) hb_ (by omega) (by omega)
      refine skip_ (by rfl) rfl (insert_run rfl e9 e16 e18 h1) ?_
      exact hK.out _ _ ⟨_, (by rw [ha]; exact putSel_none (v := undef) rfl), h2⟩
    refine steps_cons ?_ ?_
    · rintro b a w' ⟨l, ha, hs⟩ hb_ hon hoff
      refine ⟨_, rfl, fun K hK => ?_⟩
      have e9 : a.tmps[9]? = some (.map (some (w.heap.size + 1))) := by rw [ha]; exact putSel_on (e := (0, 9, .map (some (w.heap.size + 1)))) 0 rfl rfl (hon 0 (by kernel_rfl)) rfl
      have e19 : a.tmps[19]? = some (keyV 1 2) := by rw [ha]; exact (putSel_off rfl).trans rfl
      have e21 : a.tmps[21]? = some (valV w.heap.size 1 2) := by rw [ha]; exact (putSel_off rfl).trans rfl
      obtain ⟨h1, h2⟩ := hs.put (i := 16) (o := 1) (k := 2) (by rfl) (hon 0 (by kernel_rfl)) hb_ (by omega) (by omega)
      refine skip_ (by rfl) rfl (insert_run rfl e9 e19 e21 h1) ?_
      exact hK.out _ _ ⟨_, (by rw [ha]; exact putSel_none (v := undef) rfl), h2⟩
    refine steps_cons ?_ ?_
    · rintro b a w' ⟨l, ha, hs⟩ hb_ hon hoff
      refine ⟨_, rfl, fun K hK => ?_⟩
      have e4 : a.tmps[4]? = some (.pointer (some ⟨w.heap.size, 0, none⟩)) := by rw [ha]; exact (putSel_off rfl).trans rfl
      have hc := cell_of_one hs.box
      refine value_ (w1 := w') (v := .func (.func 53) #[] #[]) (by rfl) rfl ?_ ?_
      · clear ha hs hW0 hbx hbl
        go_simp
        (try rfl)
      exact hK.out _ _ ⟨l, (by rw [ha]; exact putSel_upk 1 hb_ rfl rfl rfl), hs.same (by decide) (by rfl)⟩
    refine steps_cons ?_ ?_
    · rintro b a w' ⟨l, ha, hs⟩ hb_ hon hoff
      refine ⟨_, rfl, fun K hK => ?_⟩
      have e23 : a.tmps[23]? = some (.func (.func 53) #[] #[]) := by rw [ha]; exact putSel_on (e := (18, 23, .func (.func 53) #[] #[])) 1 rfl rfl (hon 18 (by kernel_rfl)) rfl
      refine value_ (w1 := w') (v := valV w.heap.size 2 2) (by rfl) rfl ?_ ?_
      · clear ha hs hW0 hbx hbl
        go_simp
        (try rfl)
      exact hK.out _ _ ⟨l, (by rw [ha]; exact putSel_upk 2 hb_ rfl rfl rfl), hs.same (by decide) (by rfl)⟩
    refine steps_cons ?_ ?_
    · rintro b a w' ⟨l, ha, hs⟩ hb_ hon hoff
      refine ⟨_, rfl, fun K hK => ?_⟩
      have e9 : a.tmps[9]? = some (.map (some (w.heap.size + 1))) := by rw [ha]; exact putSel_on (e := (0, 9, .map (some (w.heap.size + 1)))) 0 rfl rfl (hon 0 (by kernel_rfl)) rfl
      have e22 : a.tmps[22]? = some (keyV 2 2) := by rw [ha]; exact (putSel_off rfl).trans rfl
      have e24 : a.tmps[24]? = some (valV w.heap.size 2 2) := by rw [ha]; exact putSel_on (e := (19, 24, valV w.heap.size 2 2)) 2 rfl rfl (hon 19 (by kernel_rfl)) rfl
      obtain ⟨h1, h2⟩ := hs.put (i := 20) (o := 2) (k := 2) (by rfl) (hon 0 (by kernel_rfl)) hb_ (by omega) (by omega)
      refine skip_ (by rfl) rfl (insert_run rfl e9 e22 e24 h1) ?_
      exact hK.out _ _ ⟨_, (by rw [ha]; exact putSel_none (v := undef) rfl), h2⟩
    refine steps_cons ?_ ?_
    · rintro b a w' ⟨l, ha, hs⟩ hb_ hon hoff
      refine ⟨_, rfl, fun K hK => ?_⟩
      have e9 : a.tmps[9]? = some (.map (some (w.heap.size + 1))) := by rw [ha]; exact putSel_on (e := (0, 9, .map (some (w.heap.size + 1)))) 0 rfl rfl (hon 0 (by kernel_rfl)) rfl
      have e25 : a.tmps[25]? = some (keyV 3 2) := by rw [ha]; exact (putSel_off rfl).trans rfl
      have e27 : a.tmps[27]? = some (valV w.heap.size 3 2) := by rw [ha]; exact (putSel_off rfl).trans rfl
      obtain ⟨h1, h2⟩ := hs.put (i := 24) (o := 3) (k := 2) (by rfl) (hon 0 (by kernel_rfl)) hb_ (by omega) (by omega)
      refine skip_ (by rfl) rfl (insert_run rfl e9 e25 e27 h1) ?_
      exact hK.out _ _ ⟨_, (by rw [ha]; exact putSel_none (v := undef) rfl), h2⟩
    refine steps_cons ?_ ?_
    · rintro b a w' ⟨l, ha, hs⟩ hb_ hon hoff
      refine ⟨_, rfl, fun K hK => ?_⟩
      have e9 : a.tmps[9]? = some (.map (some (w.heap.size + 1))) := by rw [ha]; exact putSel_on (e := (0, 9, .map (some (w.heap.size + 1)))) 0 rfl rfl (hon 0 (by kernel_rfl)) rfl
      refine value_ (w1 := w') (v := .map (some (w.heap.size + 1))) (by rfl) rfl ?_ ?_
      · clear ha hs hW0 hbx hbl
        go_simp
        (try rfl)
      exact hK.out _ _ ⟨l, (by rw [ha]; exact putSel_upk 3 hb_ rfl rfl rfl), hs.same (by decide) (by rfl)⟩
    refine steps_cons ?_ ?_
    · rintro b a w' ⟨l, ha, hs⟩ hb_ hon hoff
      refine ⟨_, rfl, fun K hK => ?_⟩
      have e28 : a.tmps[28]? = some (.map (some (w.heap.size + 1))) := by rw [ha]; exact putSel_on (e := (25, 28, .map (some (w.heap.size + 1)))) 3 rfl rfl (hon 25 (by kernel_rfl)) rfl
      refine value_ (w1 := w') (v := .map (some (w.heap.size + 1))) (by rfl) rfl ?_ ?_
      · clear ha hs hW0 hbx hbl
        go_simp
        (try rfl)
      exact hK.out _ _ ⟨l, (by rw [ha]; exact putSel_upk 4 hb_ rfl rfl rfl), hs.same (by decide) (by rfl)⟩
    exact steps_nil
  · rintro b a w' hall ⟨l, ha, hs⟩
    have hb0 := hall 0 (by kernel_rfl)
    have hb4 := hall 4 (by kernel_rfl)
    have hb8 := hall 8 (by kernel_rfl)
    have hb12 := hall 12 (by kernel_rfl)
    have hb16 := hall 16 (by kernel_rfl)
    have hb18 := hall 18 (by kernel_rfl)
    have hb19 := hall 19 (by kernel_rfl)
    have hb20 := hall 20 (by kernel_rfl)
    have hb24 := hall 24 (by kernel_rfl)
    have hb25 := hall 25 (by kernel_rfl)
    have hb26 := hall 26 (by kernel_rfl)
    subst ha
    simp only [putSel, hb0, hb4, hb8, hb12, hb16, hb18, hb19, hb20, hb24, hb25, hb26, if_true, Act.put, List.setIfInBounds_toArray, List.set_cons_zero, List.set_cons_succ]
    have hF : FormsAt w' (w.heap.size + 1) w.heap.size := ⟨hs.box, l, hs.nod, fun q => by
      rw [hs.mem]
      constructor
      · rintro ⟨i, h1, _⟩
        unfold insOf at h1
        (repeat' split at h1) <;> first | (cases h1; done) | (cases h1; decide)
      · intro hq
        simp only [pairs, List.mem_cons, List.not_mem_nil, or_false] at hq
        rcases hq with rfl | rfl | rfl | rfl | rfl | rfl
        · exact ⟨4, rfl, hb4⟩
        · exact ⟨8, rfl, hb8⟩
        · exact ⟨12, rfl, hb12⟩
        · exact ⟨16, rfl, hb16⟩
        · exact ⟨20, rfl, hb20⟩
        · exact ⟨24, rfl, hb24⟩, hs.here hb0⟩
    have hB := hbl.trans hs.bel
    clear hs hbl hbx hW0 hall HT_ HW_ hb0 hb4 hb8 hb12 hb16 hb18 hb19 hb20 hb24 hb25 hb26
    go_wp2
    go_ret
    exact ⟨_, _, rfl, by omega, Nat.le_refl _, hF, hB⟩
end Go.Proofs.YtndijkndllpkgaaDoor.Frm
/- The six closures that direct.forms hands out: the walks (printed by gen_clo.py of this session). -/
namespace Go.Proofs.YtndijkndllpkgaaDoor.Frm
open Go.RowKit Go.Proofs.YtndijkndllpkgaaDoorW.PrintWords Go.Proofs.YtndijkndllpkgaaDoorW.PrintLast Go.Proofs.YtndijkndllpkgaaDoorW.PrintMore
set_option linter.unusedVariables false
set_option linter.unusedSimpArgs false

def ptrs (D : Nat) (l : List Nat) : List Value := l.map fun o => .pointer (some ⟨D, o, none⟩)
def offs (o k : Int) : List Nat := if k = 1 then (if o = 1 then [2, 3, 4, 5, 6, 7] else if o = 2 then [2] else [2, 7]) else (if o = 1 then [8, 9, 10, 11, 12] else if o = 2 then [8, 9, 10] else [8, 9, 10, 12])

theorem own_made {w : World} {L : List Value} {n : Nat} (h : L.length = n) (hn : n ≤ maxLen) (T : TypeId) : (w.alloc (.cells L.toArray T)).ownsRow w.heap.size T 1 (.slice (some ⟨w.heap.size, 0, none⟩) n n) n L := by
  refine ⟨by omega, .inr ⟨w.heap.size, n, L.toArray, rfl, Nat.le_refl _, ?_, Nat.le_refl _, hn, by simp [h], by simp [← h]⟩⟩
  show (w.heap.push _)[w.heap.size]? = _
  exact Array.getElem?_push_size

theorem dyn_run {P : Program} {a : Act} {o : Oper} {x y : Tmp} {ts : Array TypeId} {f : FuncId} {fn : Func} {caps : Array Value} {v : Value} {w : World} (ho : o.op = .call { callee := .value (.tmp x), args := #[.tmp y], argTypes := ts })
    (e1 : a.tmps[x]? = some (.func (.func f) #[] caps)) (e2 : a.tmps[y]? = some v) (hf : P.funcs[f]? = some fn) (hname : (fn.name == "runtime.NumGoroutine") = false) (hb : fn.body.isSome = true) :
    (execOp a.eval o).run P w = .ok (.enter f (#[v] ++ caps)) w := by
  have he := enters_ hf hname hb (#[v] ++ caps) w
  unfold execOp
  simp [ho, resolve, Deferred.ofValue, invoke, eval_of e1, eval_of e2]
  simpa using he

theorem infoP : (Tryd.prog.info? 63).map (fun i => (i.zero, i.size, i.bytes)) = some (some (.pointer none), 1, 8) := by kernel_rfl
theorem info_parts' {P : Program} {e : TypeId} {z : Value} {s b : Nat} (h : (P.info? e).map (fun i => (i.zero, i.size, i.bytes)) = some (some z, s, b)) : ∃ i, P.info? e = some i ∧ i.zero = some z ∧ i.size = s ∧ i.bytes = b := by
  cases hi : P.info? e with
  | none => rw [hi] at h; cases h
  | some i => rw [hi] at h; simp at h; exact ⟨i, rfl, h.1, h.2.1, h.2.2⟩

set_option maxHeartbeats 4000000 in
theorem clo1_calls (D : Nat) (w : World) : Calls Tryd.prog 50 #[.pointer (some ⟨D, 0, none⟩)] w fun e w' => ∃ v : Value, e = .returned v ∧ w'.ownsRow w.heap.size 63 1 v 1 (ptrs D [2]) ∧ Below w.heap.size w w' := by
  go_enter Tryd.func50, Tryd.ntmps50
  go_wp2
  go_ret
  exact ⟨_, rfl, own_made (w := w) (n := 1) rfl (by decide) _, (Below.refl _ _).alloc (Nat.le_refl _) _⟩
def clo2.T1 : Bool × List (List Nat × List Nat) := (true, [([], []), ([0], [0]), ([1], [1]), ([2], [2]), ([], []), ([4], [4]), ([5], [5]), ([6], [6]), ([3, 7], [3, 7]), ([8, 0, 1, 2, 3, 4, 5, 6, 7, 8], [8])])
def clo2.B1 : List Nat := [0, 1, 3, 7, 0, 16, 48, 112, 255, 511]
theorem clo2.tab1 : rtab .any (opsOf Tryd.f51 1) = clo2.T1 := by kernel_rfl
theorem clo2.bits1 : waitsOk clo2.T1.2 clo2.B1 = true := by kernel_rfl
set_option maxHeartbeats 4000000 in
theorem clo2_calls (D : Nat) (w : World) : Calls Tryd.prog 51 #[.pointer (some ⟨D, 0, none⟩)] w fun e w' => ∃ v : Value, e = .returned v ∧ w'.ownsRow w.heap.size 63 1 v 2 (ptrs D [2, 7]) ∧ Below w.heap.size w w' := by
  go_enter Tryd.func51, Tryd.ntmps51
  go_wp2_with fail
  refine start_ (n := 10) (S := fun w' => True) (ds := []) #[false, false, false, false, false, false, false, false, false, false] (by kernel_rfl) rfl rfl trivial (fun hHeld => ?_)
  refine with_tabW clo2.tab1 clo2.bits1 (fun HT_ HW_ => ?_)
  refine pure_ (i := 0) (N := some 3) (v := ?_) (a' := ?_) #[true, false, false, false, false, false, false, false, false, false] rfl rfl (any_of HT_.out (by kernel_rfl)) (fun _ _ _ h => h) (Or.inl ⟨by rfl, ?_⟩) ?_ ?_
  rotate_left
  · intro w'
    go_simp
    with_reducible rfl
  rotate_left
  · simp only [Act.put, List.setIfInBounds_toArray, List.set_cons_zero, List.set_cons_succ, i64_w, i32_w]
    rfl
  refine pure_ (i := 1) (N := some 4) (v := ?_) (a' := ?_) #[true, true, false, false, false, false, false, false, false, false] rfl rfl (any_of HT_.out (by kernel_rfl)) (fun _ _ _ h => h) (Or.inl ⟨by rfl, ?_⟩) ?_ ?_
  rotate_left
  · intro w'
    go_simp
    with_reducible rfl
  rotate_left
  · simp only [Act.put, List.setIfInBounds_toArray, List.set_cons_zero, List.set_cons_succ, i64_w, i32_w]
    rfl
  refine pure_ (i := 2) (N := some 5) (v := ?_) (a' := ?_) #[true, true, true, false, false, false, false, false, false, false] rfl rfl (any_of HT_.out (by kernel_rfl)) (fun _ _ _ h => h) (Or.inl ⟨by rfl, ?_⟩) ?_ ?_
  rotate_left
  · intro w'
    go_simp
    with_reducible rfl
  rotate_left
  · simp only [Act.put, List.setIfInBounds_toArray, List.set_cons_zero, List.set_cons_succ, i64_w, i32_w]
    rfl
  refine pure_ (i := 3) (N := some 6) (v := ?_) (a' := ?_) #[true, true, true, true, false, false, false, false, false, false] rfl rfl (any_of HT_.out (by kernel_rfl)) (fun _ _ _ h => h) (Or.inl ⟨by rfl, ?_⟩) ?_ ?_
  rotate_left
  · intro w'
    go_simp
    with_reducible rfl
  rotate_left
  · simp only [Act.put, List.setIfInBounds_toArray, List.set_cons_zero, List.set_cons_succ, i64_w, i32_w]
    rfl
  refine pure_ (i := 4) (N := some 7) (v := ?_) (a' := ?_) #[true, true, true, true, true, false, false, false, false, false] rfl rfl (any_of HT_.out (by kernel_rfl)) (fun _ _ _ h => h) (Or.inl ⟨by rfl, ?_⟩) ?_ ?_
  rotate_left
  · intro w'
    go_simp
    with_reducible rfl
  rotate_left
  · simp only [Act.put, List.setIfInBounds_toArray, List.set_cons_zero, List.set_cons_succ, i64_w, i32_w]
    rfl
  refine pure_ (i := 5) (N := some 8) (v := ?_) (a' := ?_) #[true, true, true, true, true, true, false, false, false, false] rfl rfl (any_of HT_.out (by kernel_rfl)) (fun _ _ _ h => h) (Or.inl ⟨by rfl, ?_⟩) ?_ ?_
  rotate_left
  · intro w'
    go_simp
    with_reducible rfl
  rotate_left
  · simp only [Act.put, List.setIfInBounds_toArray, List.set_cons_zero, List.set_cons_succ, i64_w, i32_w]
    rfl
  refine pure_ (i := 6) (N := some 9) (v := ?_) (a' := ?_) #[true, true, true, true, true, true, true, false, false, false] rfl rfl (any_of HT_.out (by kernel_rfl)) (fun _ _ _ h => h) (Or.inl ⟨by rfl, ?_⟩) ?_ ?_
  rotate_left
  · intro w'
    go_simp
    with_reducible rfl
  rotate_left
  · simp only [Act.put, List.setIfInBounds_toArray, List.set_cons_zero, List.set_cons_succ, i64_w, i32_w]
    rfl
  refine pure_ (i := 7) (N := some 10) (v := ?_) (a' := ?_) #[true, true, true, true, true, true, true, true, false, false] rfl rfl (any_of HT_.out (by kernel_rfl)) (fun _ _ _ h => h) (Or.inl ⟨by rfl, ?_⟩) ?_ ?_
  rotate_left
  · intro w'
    go_simp
    with_reducible rfl
  rotate_left
  · simp only [Act.put, List.setIfInBounds_toArray, List.set_cons_zero, List.set_cons_succ, i64_w, i32_w]
    rfl
  refine one_ (i := 8) (N := some 11) #[true, true, true, true, true, true, true, true, true, false] rfl rfl (one_of HT_.out (by kernel_rfl)) (by decide) (fun K hK => ?_)
  refine value_ (w1 := ?_) (v := ?_) (by rfl) rfl ?_ ?_
  rotate_left 2
  · go_simp
    constructor
    · rfl
    · rfl
  refine hK.out _ _ trivial (fun hHeld => ?_)
  clear hK K
  refine norm_ (a' := ?_) ?_ ?_
  rotate_left
  · show Act.put _ (some 11) _ = _
    simp only [Act.put, List.setIfInBounds_toArray, List.set_cons_zero, List.set_cons_succ, i64_w, i32_w]
    rfl
  refine pure_ (i := 9) (N := some 2) (v := ?_) (a' := ?_) #[true, true, true, true, true, true, true, true, true, true] rfl rfl (any_of HT_.out (by kernel_rfl)) (fun _ _ _ h => h) (Or.inl ⟨by rfl, ?_⟩) ?_ ?_
  rotate_left
  · intro w'
    go_simp
    with_reducible rfl
  rotate_left
  · simp only [Act.put, List.setIfInBounds_toArray, List.set_cons_zero, List.set_cons_succ, i64_w, i32_w]
    rfl
  refine done_ (done_of HT_.out (by kernel_rfl)) ?_
  clear HT_ HW_ hHeld
  go_wp2
  go_ret
  exact ⟨_, rfl, own_made (w := w.drew) (n := 2) rfl (by decide) _, ((Below.refl _ _).drew).alloc (Nat.le_refl _) _⟩
def clo3.T1 : Bool × List (List Nat × List Nat) := (true, [([], []), ([0], [0]), ([1], [1]), ([2], [2]), ([], []), ([4], [4]), ([5], [5]), ([6], [6]), ([], []), ([8], [8]), ([9], [9]), ([10], [10]), ([], []), ([12], [12]), ([13], [13]), ([14], [14]), ([], []), ([16], [16]), ([17], [17]), ([18], [18]), ([], []), ([20], [20]), ([21], [21]), ([22], [22]), ([3, 7, 11, 15, 19, 23], [3, 7, 11, 15, 19, 23]), ([24, 0, 1, 2, 3, 4, 5, 6, 7, 8, 9, 10, 11, 12, 13, 14, 15, 16, 17, 18, 19, 20, 21, 22, 23, 24], [24])])
def clo3.B1 : List Nat := [0, 1, 3, 7, 0, 16, 48, 112, 0, 256, 768, 1792, 0, 4096, 12288, 28672, 0, 65536, 196608, 458752, 0, 1048576, 3145728, 7340032, 16777215, 33554431]
theorem clo3.tab1 : rtab .any (opsOf Tryd.f52 1) = clo3.T1 := by kernel_rfl
theorem clo3.bits1 : waitsOk clo3.T1.2 clo3.B1 = true := by kernel_rfl
set_option maxHeartbeats 4000000 in
theorem clo3_calls (D : Nat) (w : World) : Calls Tryd.prog 52 #[.pointer (some ⟨D, 0, none⟩)] w fun e w' => ∃ v : Value, e = .returned v ∧ w'.ownsRow w.heap.size 63 1 v 6 (ptrs D [2, 3, 4, 5, 6, 7]) ∧ Below w.heap.size w w' := by
  go_enter Tryd.func52, Tryd.ntmps52
  go_wp2_with fail
  refine start_ (n := 26) (S := fun w' => True) (ds := []) #[false, false, false, false, false, false, false, false, false, false, false, false, false, false, false, false, false, false, false, false, false, false, false, false, false, false] (by kernel_rfl) rfl rfl trivial (fun hHeld => ?_)
  refine with_tabW clo3.tab1 clo3.bits1 (fun HT_ HW_ => ?_)
  refine pure_ (i := 0) (N := some 3) (v := ?_) (a' := ?_) #[true, false, false, false, false, false, false, false, false, false, false, false, false, false, false, false, false, false, false, false, false, false, false, false, false, false] rfl rfl (any_of HT_.out (by kernel_rfl)) (fun _ _ _ h => h) (Or.inl ⟨by rfl, ?_⟩) ?_ ?_
  rotate_left
  · intro w'
    go_simp
    with_reducible rfl
  rotate_left
  · simp only [Act.put, List.setIfInBounds_toArray, List.set_cons_zero, List.set_cons_succ, i64_w, i32_w]
    rfl
  refine pure_ (i := 1) (N := some 4) (v := ?_) (a' := ?_) #[true, true, false, false, false, false, false, false, false, false, false, false, false, false, false, false, false, false, false, false, false, false, false, false, false, false] rfl rfl (any_of HT_.out (by kernel_rfl)) (fun _ _ _ h => h) (Or.inl ⟨by rfl, ?_⟩) ?_ ?_
  rotate_left
  · intro w'
    go_simp
    with_reducible rfl
  rotate_left
  · simp only [Act.put, List.setIfInBounds_toArray, List.set_cons_zero, List.set_cons_succ, i64_w, i32_w]
    rfl
  refine pure_ (i := 2) (N := some 5) (v := ?_) (a' := ?_) #[true, true, true, false, false, false, false, false, false, false, false, false, false, false, false, false, false, false, false, false, false, false, false, false, false, false] rfl rfl (any_of HT_.out (by kernel_rfl)) (fun _ _ _ h => h) (Or.inl ⟨by rfl, ?_⟩) ?_ ?_
  rotate_left
  · intro w'
    go_simp
    with_reducible rfl
  rotate_left
  · simp only [Act.put, List.setIfInBounds_toArray, List.set_cons_zero, List.set_cons_succ, i64_w, i32_w]
    rfl
  refine pure_ (i := 3) (N := some 6) (v := ?_) (a' := ?_) #[true, true, true, true, false, false, false, false, false, false, false, false, false, false, false, false, false, false, false, false, false, false, false, false, false, false] rfl rfl (any_of HT_.out (by kernel_rfl)) (fun _ _ _ h => h) (Or.inl ⟨by rfl, ?_⟩) ?_ ?_
  rotate_left
  · intro w'
    go_simp
    with_reducible rfl
  rotate_left
  · simp only [Act.put, List.setIfInBounds_toArray, List.set_cons_zero, List.set_cons_succ, i64_w, i32_w]
    rfl
  refine pure_ (i := 4) (N := some 7) (v := ?_) (a' := ?_) #[true, true, true, true, true, false, false, false, false, false, false, false, false, false, false, false, false, false, false, false, false, false, false, false, false, false] rfl rfl (any_of HT_.out (by kernel_rfl)) (fun _ _ _ h => h) (Or.inl ⟨by rfl, ?_⟩) ?_ ?_
  rotate_left
  · intro w'
    go_simp
    with_reducible rfl
  rotate_left
  · simp only [Act.put, List.setIfInBounds_toArray, List.set_cons_zero, List.set_cons_succ, i64_w, i32_w]
    rfl
  refine pure_ (i := 5) (N := some 8) (v := ?_) (a' := ?_) #[true, true, true, true, true, true, false, false, false, false, false, false, false, false, false, false, false, false, false, false, false, false, false, false, false, false] rfl rfl (any_of HT_.out (by kernel_rfl)) (fun _ _ _ h => h) (Or.inl ⟨by rfl, ?_⟩) ?_ ?_
  rotate_left
  · intro w'
    go_simp
    with_reducible rfl
  rotate_left
  · simp only [Act.put, List.setIfInBounds_toArray, List.set_cons_zero, List.set_cons_succ, i64_w, i32_w]
    rfl
  refine pure_ (i := 6) (N := some 9) (v := ?_) (a' := ?_) #[true, true, true, true, true, true, true, false, false, false, false, false, false, false, false, false, false, false, false, false, false, false, false, false, false, false] rfl rfl (any_of HT_.out (by kernel_rfl)) (fun _ _ _ h => h) (Or.inl ⟨by rfl, ?_⟩) ?_ ?_
  rotate_left
  · intro w'
    go_simp
    with_reducible rfl
  rotate_left
  · simp only [Act.put, List.setIfInBounds_toArray, List.set_cons_zero, List.set_cons_succ, i64_w, i32_w]
    rfl
  refine pure_ (i := 7) (N := some 10) (v := ?_) (a' := ?_) #[true, true, true, true, true, true, true, true, false, false, false, false, false, false, false, false, false, false, false, false, false, false, false, false, false, false] rfl rfl (any_of HT_.out (by kernel_rfl)) (fun _ _ _ h => h) (Or.inl ⟨by rfl, ?_⟩) ?_ ?_
  rotate_left
  · intro w'
    go_simp
    with_reducible rfl
  rotate_left
  · simp only [Act.put, List.setIfInBounds_toArray, List.set_cons_zero, List.set_cons_succ, i64_w, i32_w]
    rfl
  refine pure_ (i := 8) (N := some 11) (v := ?_) (a' := ?_) #[true, true, true, true, true, true, true, true, true, false, false, false, false, false, false, false, false, false, false, false, false, false, false, false, false, false] rfl rfl (any_of HT_.out (by kernel_rfl)) (fun _ _ _ h => h) (Or.inl ⟨by rfl, ?_⟩) ?_ ?_
  rotate_left
  · intro w'
    go_simp
    with_reducible rfl
  rotate_left
  · simp only [Act.put, List.setIfInBounds_toArray, List.set_cons_zero, List.set_cons_succ, i64_w, i32_w]
    rfl
  refine pure_ (i := 9) (N := some 12) (v := ?_) (a' := ?_) #[true, true, true, true, true, true, true, true, true, true, false, false, false, false, false, false, false, false, false, false, false, false, false, false, false, false] rfl rfl (any_of HT_.out (by kernel_rfl)) (fun _ _ _ h => h) (Or.inl ⟨by rfl, ?_⟩) ?_ ?_
  rotate_left
  · intro w'
    go_simp
    with_reducible rfl
  rotate_left
  · simp only [Act.put, List.setIfInBounds_toArray, List.set_cons_zero, List.set_cons_succ, i64_w, i32_w]
    rfl
  refine pure_ (i := 10) (N := some 13) (v := ?_) (a' := ?_) #[true, true, true, true, true, true, true, true, true, true, true, false, false, false, false, false, false, false, false, false, false, false, false, false, false, false] rfl rfl (any_of HT_.out (by kernel_rfl)) (fun _ _ _ h => h) (Or.inl ⟨by rfl, ?_⟩) ?_ ?_
  rotate_left
  · intro w'
    go_simp
    with_reducible rfl
  rotate_left
  · simp only [Act.put, List.setIfInBounds_toArray, List.set_cons_zero, List.set_cons_succ, i64_w, i32_w]
    rfl
  refine pure_ (i := 11) (N := some 14) (v := ?_) (a' := ?_) #[true, true, true, true, true, true, true, true, true, true, true, true, false, false, false, false, false, false, false, false, false, false, false, false, false, false] rfl rfl (any_of HT_.out (by kernel_rfl)) (fun _ _ _ h => h) (Or.inl ⟨by rfl, ?_⟩) ?_ ?_
  rotate_left
  · intro w'
    go_simp
    with_reducible rfl
  rotate_left
  · simp only [Act.put, List.setIfInBounds_toArray, List.set_cons_zero, List.set_cons_succ, i64_w, i32_w]
    rfl
  refine pure_ (i := 12) (N := some 15) (v := ?_) (a' := ?_) #[true, true, true, true, true, true, true, true, true, true, true, true, true, false, false, false, false, false, false, false, false, false, false, false, false, false] rfl rfl (any_of HT_.out (by kernel_rfl)) (fun _ _ _ h => h) (Or.inl ⟨by rfl, ?_⟩) ?_ ?_
  rotate_left
  · intro w'
    go_simp
    with_reducible rfl
  rotate_left
  · simp only [Act.put, List.setIfInBounds_toArray, List.set_cons_zero, List.set_cons_succ, i64_w, i32_w]
    rfl
  refine pure_ (i := 13) (N := some 16) (v := ?_) (a' := ?_) #[true, true, true, true, true, true, true, true, true, true, true, true, true, true, false, false, false, false, false, false, false, false, false, false, false, false] rfl rfl (any_of HT_.out (by kernel_rfl)) (fun _ _ _ h => h) (Or.inl ⟨by rfl, ?_⟩) ?_ ?_
  rotate_left
  · intro w'
    go_simp
    with_reducible rfl
  rotate_left
  · simp only [Act.put, List.setIfInBounds_toArray, List.set_cons_zero, List.set_cons_succ, i64_w, i32_w]
    rfl
  refine pure_ (i := 14) (N := some 17) (v := ?_) (a' := ?_) #[true, true, true, true, true, true, true, true, true, true, true, true, true, true, true, false, false, false, false, false, false, false, false, false, false, false] rfl rfl (any_of HT_.out (by kernel_rfl)) (fun _ _ _ h => h) (Or.inl ⟨by rfl, ?_⟩) ?_ ?_
  rotate_left
  · intro w'
    go_simp
    with_reducible rfl
  rotate_left
  · simp only [Act.put, List.setIfInBounds_toArray, List.set_cons_zero, List.set_cons_succ, i64_w, i32_w]
    rfl
  refine pure_ (i := 15) (N := some 18) (v := ?_) (a' := ?_) #[true, true, true, true, true, true, true, true, true, true, true, true, true, true, true, true, false, false, false, false, false, false, false, false, false, false] rfl rfl (any_of HT_.out (by kernel_rfl)) (fun _ _ _ h => h) (Or.inl ⟨by rfl, ?_⟩) ?_ ?_
  rotate_left
  · intro w'
    go_simp
    with_reducible rfl
  rotate_left
  · simp only [Act.put, List.setIfInBounds_toArray, List.set_cons_zero, List.set_cons_succ, i64_w, i32_w]
    rfl
  refine pure_ (i := 16) (N := some 19) (v := ?_) (a' := ?_) #[true, true, true, true, true, true, true, true, true, true, true, true, true, true, true, true, true, false, false, false, false, false, false, false, false, false] rfl rfl (any_of HT_.out (by kernel_rfl)) (fun _ _ _ h => h) (Or.inl ⟨by rfl, ?_⟩) ?_ ?_
  rotate_left
  · intro w'
    go_simp
    with_reducible rfl
  rotate_left
  · simp only [Act.put, List.setIfInBounds_toArray, List.set_cons_zero, List.set_cons_succ, i64_w, i32_w]
    rfl
  refine pure_ (i := 17) (N := some 20) (v := ?_) (a' := ?_) #[true, true, true, true, true, true, true, true, true, true, true, true, true, true, true, true, true, true, false, false, false, false, false, false, false, false] rfl rfl (any_of HT_.out (by kernel_rfl)) (fun _ _ _ h => h) (Or.inl ⟨by rfl, ?_⟩) ?_ ?_
  rotate_left
  · intro w'
    go_simp
    with_reducible rfl
  rotate_left
  · simp only [Act.put, List.setIfInBounds_toArray, List.set_cons_zero, List.set_cons_succ, i64_w, i32_w]
    rfl
  refine pure_ (i := 18) (N := some 21) (v := ?_) (a' := ?_) #[true, true, true, true, true, true, true, true, true, true, true, true, true, true, true, true, true, true, true, false, false, false, false, false, false, false] rfl rfl (any_of HT_.out (by kernel_rfl)) (fun _ _ _ h => h) (Or.inl ⟨by rfl, ?_⟩) ?_ ?_
  rotate_left
  · intro w'
    go_simp
    with_reducible rfl
  rotate_left
  · simp only [Act.put, List.setIfInBounds_toArray, List.set_cons_zero, List.set_cons_succ, i64_w, i32_w]
    rfl
  refine pure_ (i := 19) (N := some 22) (v := ?_) (a' := ?_) #[true, true, true, true, true, true, true, true, true, true, true, true, true, true, true, true, true, true, true, true, false, false, false, false, false, false] rfl rfl (any_of HT_.out (by kernel_rfl)) (fun _ _ _ h => h) (Or.inl ⟨by rfl, ?_⟩) ?_ ?_
  rotate_left
  · intro w'
    go_simp
    with_reducible rfl
  rotate_left
  · simp only [Act.put, List.setIfInBounds_toArray, List.set_cons_zero, List.set_cons_succ, i64_w, i32_w]
    rfl
  refine pure_ (i := 20) (N := some 23) (v := ?_) (a' := ?_) #[true, true, true, true, true, true, true, true, true, true, true, true, true, true, true, true, true, true, true, true, true, false, false, false, false, false] rfl rfl (any_of HT_.out (by kernel_rfl)) (fun _ _ _ h => h) (Or.inl ⟨by rfl, ?_⟩) ?_ ?_
  rotate_left
  · intro w'
    go_simp
    with_reducible rfl
  rotate_left
  · simp only [Act.put, List.setIfInBounds_toArray, List.set_cons_zero, List.set_cons_succ, i64_w, i32_w]
    rfl
  refine pure_ (i := 21) (N := some 24) (v := ?_) (a' := ?_) #[true, true, true, true, true, true, true, true, true, true, true, true, true, true, true, true, true, true, true, true, true, true, false, false, false, false] rfl rfl (any_of HT_.out (by kernel_rfl)) (fun _ _ _ h => h) (Or.inl ⟨by rfl, ?_⟩) ?_ ?_
  rotate_left
  · intro w'
    go_simp
    with_reducible rfl
  rotate_left
  · simp only [Act.put, List.setIfInBounds_toArray, List.set_cons_zero, List.set_cons_succ, i64_w, i32_w]
    rfl
  refine pure_ (i := 22) (N := some 25) (v := ?_) (a' := ?_) #[true, true, true, true, true, true, true, true, true, true, true, true, true, true, true, true, true, true, true, true, true, true, true, false, false, false] rfl rfl (any_of HT_.out (by kernel_rfl)) (fun _ _ _ h => h) (Or.inl ⟨by rfl, ?_⟩) ?_ ?_
  rotate_left
  · intro w'
    go_simp
    with_reducible rfl
  rotate_left
  · simp only [Act.put, List.setIfInBounds_toArray, List.set_cons_zero, List.set_cons_succ, i64_w, i32_w]
    rfl
  refine pure_ (i := 23) (N := some 26) (v := ?_) (a' := ?_) #[true, true, true, true, true, true, true, true, true, true, true, true, true, true, true, true, true, true, true, true, true, true, true, true, false, false] rfl rfl (any_of HT_.out (by kernel_rfl)) (fun _ _ _ h => h) (Or.inl ⟨by rfl, ?_⟩) ?_ ?_
  rotate_left
  · intro w'
    go_simp
    with_reducible rfl
  rotate_left
  · simp only [Act.put, List.setIfInBounds_toArray, List.set_cons_zero, List.set_cons_succ, i64_w, i32_w]
    rfl
  refine one_ (i := 24) (N := some 27) #[true, true, true, true, true, true, true, true, true, true, true, true, true, true, true, true, true, true, true, true, true, true, true, true, true, false] rfl rfl (one_of HT_.out (by kernel_rfl)) (by decide) (fun K hK => ?_)
  refine value_ (w1 := ?_) (v := ?_) (by rfl) rfl ?_ ?_
  rotate_left 2
  · go_simp
    constructor
    · rfl
    · rfl
  refine hK.out _ _ trivial (fun hHeld => ?_)
  clear hK K
  refine norm_ (a' := ?_) ?_ ?_
  rotate_left
  · show Act.put _ (some 27) _ = _
    simp only [Act.put, List.setIfInBounds_toArray, List.set_cons_zero, List.set_cons_succ, i64_w, i32_w]
    rfl
  refine pure_ (i := 25) (N := some 2) (v := ?_) (a' := ?_) #[true, true, true, true, true, true, true, true, true, true, true, true, true, true, true, true, true, true, true, true, true, true, true, true, true, true] rfl rfl (any_of HT_.out (by kernel_rfl)) (fun _ _ _ h => h) (Or.inl ⟨by rfl, ?_⟩) ?_ ?_
  rotate_left
  · intro w'
    go_simp
    with_reducible rfl
  rotate_left
  · simp only [Act.put, List.setIfInBounds_toArray, List.set_cons_zero, List.set_cons_succ, i64_w, i32_w]
    rfl
  refine done_ (done_of HT_.out (by kernel_rfl)) ?_
  clear HT_ HW_ hHeld
  go_wp2
  go_ret
  exact ⟨_, rfl, own_made (w := w.drew) (n := 6) rfl (by decide) _, ((Below.refl _ _).drew).alloc (Nat.le_refl _) _⟩
def clo4.T1 : Bool × List (List Nat × List Nat) := (true, [([], []), ([0], [0]), ([1], [1]), ([2], [2]), ([], []), ([4], [4]), ([5], [5]), ([6], [6]), ([], []), ([8], [8]), ([9], [9]), ([10], [10]), ([3, 7, 11], [3, 7, 11]), ([12, 0, 1, 2, 3, 4, 5, 6, 7, 8, 9, 10, 11, 12], [12])])
def clo4.B1 : List Nat := [0, 1, 3, 7, 0, 16, 48, 112, 0, 256, 768, 1792, 4095, 8191]
theorem clo4.tab1 : rtab .any (opsOf Tryd.f53 1) = clo4.T1 := by kernel_rfl
theorem clo4.bits1 : waitsOk clo4.T1.2 clo4.B1 = true := by kernel_rfl
set_option maxHeartbeats 4000000 in
theorem clo4_calls (D : Nat) (w : World) : Calls Tryd.prog 53 #[.pointer (some ⟨D, 0, none⟩)] w fun e w' => ∃ v : Value, e = .returned v ∧ w'.ownsRow w.heap.size 63 1 v 3 (ptrs D [8, 9, 10]) ∧ Below w.heap.size w w' := by
  go_enter Tryd.func53, Tryd.ntmps53
  go_wp2_with fail
  refine start_ (n := 14) (S := fun w' => True) (ds := []) #[false, false, false, false, false, false, false, false, false, false, false, false, false, false] (by kernel_rfl) rfl rfl trivial (fun hHeld => ?_)
  refine with_tabW clo4.tab1 clo4.bits1 (fun HT_ HW_ => ?_)
  refine pure_ (i := 0) (N := some 3) (v := ?_) (a' := ?_) #[true, false, false, false, false, false, false, false, false, false, false, false, false, false] rfl rfl (any_of HT_.out (by kernel_rfl)) (fun _ _ _ h => h) (Or.inl ⟨by rfl, ?_⟩) ?_ ?_
  rotate_left
  · intro w'
    go_simp
    with_reducible rfl
  rotate_left
  · simp only [Act.put, List.setIfInBounds_toArray, List.set_cons_zero, List.set_cons_succ, i64_w, i32_w]
    rfl
  refine pure_ (i := 1) (N := some 4) (v := ?_) (a' := ?_) #[true, true, false, false, false, false, false, false, false, false, false, false, false, false] rfl rfl (any_of HT_.out (by kernel_rfl)) (fun _ _ _ h => h) (Or.inl ⟨by rfl, ?_⟩) ?_ ?_
  rotate_left
  · intro w'
    go_simp
    with_reducible rfl
  rotate_left
  · simp only [Act.put, List.setIfInBounds_toArray, List.set_cons_zero, List.set_cons_succ, i64_w, i32_w]
    rfl
  refine pure_ (i := 2) (N := some 5) (v := ?_) (a' := ?_) #[true, true, true, false, false, false, false, false, false, false, false, false, false, false] rfl rfl (any_of HT_.out (by kernel_rfl)) (fun _ _ _ h => h) (Or.inl ⟨by rfl, ?_⟩) ?_ ?_
  rotate_left
  · intro w'
    go_simp
    with_reducible rfl
  rotate_left
  · simp only [Act.put, List.setIfInBounds_toArray, List.set_cons_zero, List.set_cons_succ, i64_w, i32_w]
    rfl
  refine pure_ (i := 3) (N := some 6) (v := ?_) (a' := ?_) #[true, true, true, true, false, false, false, false, false, false, false, false, false, false] rfl rfl (any_of HT_.out (by kernel_rfl)) (fun _ _ _ h => h) (Or.inl ⟨by rfl, ?_⟩) ?_ ?_
  rotate_left
  · intro w'
    go_simp
    with_reducible rfl
  rotate_left
  · simp only [Act.put, List.setIfInBounds_toArray, List.set_cons_zero, List.set_cons_succ, i64_w, i32_w]
    rfl
  refine pure_ (i := 4) (N := some 7) (v := ?_) (a' := ?_) #[true, true, true, true, true, false, false, false, false, false, false, false, false, false] rfl rfl (any_of HT_.out (by kernel_rfl)) (fun _ _ _ h => h) (Or.inl ⟨by rfl, ?_⟩) ?_ ?_
  rotate_left
  · intro w'
    go_simp
    with_reducible rfl
  rotate_left
  · simp only [Act.put, List.setIfInBounds_toArray, List.set_cons_zero, List.set_cons_succ, i64_w, i32_w]
    rfl
  refine pure_ (i := 5) (N := some 8) (v := ?_) (a' := ?_) #[true, true, true, true, true, true, false, false, false, false, false, false, false, false] rfl rfl (any_of HT_.out (by kernel_rfl)) (fun _ _ _ h => h) (Or.inl ⟨by rfl, ?_⟩) ?_ ?_
  rotate_left
  · intro w'
    go_simp
    with_reducible rfl
  rotate_left
  · simp only [Act.put, List.setIfInBounds_toArray, List.set_cons_zero, List.set_cons_succ, i64_w, i32_w]
    rfl
  refine pure_ (i := 6) (N := some 9) (v := ?_) (a' := ?_) #[true, true, true, true, true, true, true, false, false, false, false, false, false, false] rfl rfl (any_of HT_.out (by kernel_rfl)) (fun _ _ _ h => h) (Or.inl ⟨by rfl, ?_⟩) ?_ ?_
  rotate_left
  · intro w'
    go_simp
    with_reducible rfl
  rotate_left
  · simp only [Act.put, List.setIfInBounds_toArray, List.set_cons_zero, List.set_cons_succ, i64_w, i32_w]
    rfl
  refine pure_ (i := 7) (N := some 10) (v := ?_) (a' := ?_) #[true, true, true, true, true, true, true, true, false, false, false, false, false, false] rfl rfl (any_of HT_.out (by kernel_rfl)) (fun _ _ _ h => h) (Or.inl ⟨by rfl, ?_⟩) ?_ ?_
  rotate_left
  · intro w'
    go_simp
    with_reducible rfl
  rotate_left
  · simp only [Act.put, List.setIfInBounds_toArray, List.set_cons_zero, List.set_cons_succ, i64_w, i32_w]
    rfl
  refine pure_ (i := 8) (N := some 11) (v := ?_) (a' := ?_) #[true, true, true, true, true, true, true, true, true, false, false, false, false, false] rfl rfl (any_of HT_.out (by kernel_rfl)) (fun _ _ _ h => h) (Or.inl ⟨by rfl, ?_⟩) ?_ ?_
  rotate_left
  · intro w'
    go_simp
    with_reducible rfl
  rotate_left
  · simp only [Act.put, List.setIfInBounds_toArray, List.set_cons_zero, List.set_cons_succ, i64_w, i32_w]
    rfl
  refine pure_ (i := 9) (N := some 12) (v := ?_) (a' := ?_) #[true, true, true, true, true, true, true, true, true, true, false, false, false, false] rfl rfl (any_of HT_.out (by kernel_rfl)) (fun _ _ _ h => h) (Or.inl ⟨by rfl, ?_⟩) ?_ ?_
  rotate_left
  · intro w'
    go_simp
    with_reducible rfl
  rotate_left
  · simp only [Act.put, List.setIfInBounds_toArray, List.set_cons_zero, List.set_cons_succ, i64_w, i32_w]
    rfl
  refine pure_ (i := 10) (N := some 13) (v := ?_) (a' := ?_) #[true, true, true, true, true, true, true, true, true, true, true, false, false, false] rfl rfl (any_of HT_.out (by kernel_rfl)) (fun _ _ _ h => h) (Or.inl ⟨by rfl, ?_⟩) ?_ ?_
  rotate_left
  · intro w'
    go_simp
    with_reducible rfl
  rotate_left
  · simp only [Act.put, List.setIfInBounds_toArray, List.set_cons_zero, List.set_cons_succ, i64_w, i32_w]
    rfl
  refine pure_ (i := 11) (N := some 14) (v := ?_) (a' := ?_) #[true, true, true, true, true, true, true, true, true, true, true, true, false, false] rfl rfl (any_of HT_.out (by kernel_rfl)) (fun _ _ _ h => h) (Or.inl ⟨by rfl, ?_⟩) ?_ ?_
  rotate_left
  · intro w'
    go_simp
    with_reducible rfl
  rotate_left
  · simp only [Act.put, List.setIfInBounds_toArray, List.set_cons_zero, List.set_cons_succ, i64_w, i32_w]
    rfl
  refine one_ (i := 12) (N := some 15) #[true, true, true, true, true, true, true, true, true, true, true, true, true, false] rfl rfl (one_of HT_.out (by kernel_rfl)) (by decide) (fun K hK => ?_)
  refine value_ (w1 := ?_) (v := ?_) (by rfl) rfl ?_ ?_
  rotate_left 2
  · go_simp
    constructor
    · rfl
    · rfl
  refine hK.out _ _ trivial (fun hHeld => ?_)
  clear hK K
  refine norm_ (a' := ?_) ?_ ?_
  rotate_left
  · show Act.put _ (some 15) _ = _
    simp only [Act.put, List.setIfInBounds_toArray, List.set_cons_zero, List.set_cons_succ, i64_w, i32_w]
    rfl
  refine pure_ (i := 13) (N := some 2) (v := ?_) (a' := ?_) #[true, true, true, true, true, true, true, true, true, true, true, true, true, true] rfl rfl (any_of HT_.out (by kernel_rfl)) (fun _ _ _ h => h) (Or.inl ⟨by rfl, ?_⟩) ?_ ?_
  rotate_left
  · intro w'
    go_simp
    with_reducible rfl
  rotate_left
  · simp only [Act.put, List.setIfInBounds_toArray, List.set_cons_zero, List.set_cons_succ, i64_w, i32_w]
    rfl
  refine done_ (done_of HT_.out (by kernel_rfl)) ?_
  clear HT_ HW_ hHeld
  go_wp2
  go_ret
  exact ⟨_, rfl, own_made (w := w.drew) (n := 3) rfl (by decide) _, ((Below.refl _ _).drew).alloc (Nat.le_refl _) _⟩
def clo5.T1 : Bool × List (List Nat × List Nat) := (true, [([], []), ([], []), ([0, 1], [0, 1]), ([], []), ([3], [3]), ([4], [4]), ([5], [5]), ([6], [6]), ([2, 7, 2], [2, 7]), ([8, 8, 0, 1, 2, 3, 4, 5, 6, 7, 8], [8])])
def clo5.B1 : List Nat := [0, 0, 3, 0, 8, 24, 56, 120, 255, 511]
theorem clo5.tab1 : rtab .any (opsOf Tryd.f54 1) = clo5.T1 := by kernel_rfl
theorem clo5.bits1 : waitsOk clo5.T1.2 clo5.B1 = true := by kernel_rfl
set_option maxHeartbeats 4000000 in
theorem clo5_calls (D B : Nat) (w : World) (hB : w.heap[B]? = some (.cells #[.func (.func 53) #[] #[]] 54 (0, 0))) : Calls Tryd.prog 54 #[.pointer (some ⟨D, 0, none⟩), .pointer (some ⟨B, 0, none⟩)] w fun e w' => ∃ v : Value, e = .returned v ∧ w'.ownsRow w.heap.size 63 1 v 4 (ptrs D [8, 9, 10, 12]) ∧ Below w.heap.size w w' := by
  have hlt : B < w.heap.size := (Array.getElem?_eq_some_iff.1 hB).1
  go_enter Tryd.func54, Tryd.ntmps54
  go_wp2_with fail
  refine start_ (n := 10) (S := fun w' => True) (ds := []) #[false, false, false, false, false, false, false, false, false, false] (by kernel_rfl) rfl rfl trivial (fun hHeld => ?_)
  refine with_tabW clo5.tab1 clo5.bits1 (fun HT_ HW_ => ?_)
  refine pure_ (i := 1) (N := some 5) (v := ?_) (a' := ?_) #[false, true, false, false, false, false, false, false, false, false] rfl rfl (any_of HT_.out (by kernel_rfl)) (fun _ _ _ h => h) (Or.inl ⟨by rfl, ?_⟩) ?_ ?_
  rotate_left
  · intro w'
    go_simp
    with_reducible rfl
  rotate_left
  · simp only [Act.put, List.setIfInBounds_toArray, List.set_cons_zero, List.set_cons_succ, i64_w, i32_w]
    rfl
  refine pure_ (i := 3) (N := some 7) (v := ?_) (a' := ?_) #[false, true, false, true, false, false, false, false, false, false] rfl rfl (any_of HT_.out (by kernel_rfl)) (fun _ _ _ h => h) (Or.inl ⟨by rfl, ?_⟩) ?_ ?_
  rotate_left
  · intro w'
    go_simp
    with_reducible rfl
  rotate_left
  · simp only [Act.put, List.setIfInBounds_toArray, List.set_cons_zero, List.set_cons_succ, i64_w, i32_w]
    rfl
  refine pure_ (i := 4) (N := some 8) (v := ?_) (a' := ?_) #[false, true, false, true, true, false, false, false, false, false] rfl rfl (any_of HT_.out (by kernel_rfl)) (fun _ _ _ h => h) (Or.inl ⟨by rfl, ?_⟩) ?_ ?_
  rotate_left
  · intro w'
    go_simp
    with_reducible rfl
  rotate_left
  · simp only [Act.put, List.setIfInBounds_toArray, List.set_cons_zero, List.set_cons_succ, i64_w, i32_w]
    rfl
  refine pure_ (i := 5) (N := some 9) (v := ?_) (a' := ?_) #[false, true, false, true, true, true, false, false, false, false] rfl rfl (any_of HT_.out (by kernel_rfl)) (fun _ _ _ h => h) (Or.inl ⟨by rfl, ?_⟩) ?_ ?_
  rotate_left
  · intro w'
    go_simp
    with_reducible rfl
  rotate_left
  · simp only [Act.put, List.setIfInBounds_toArray, List.set_cons_zero, List.set_cons_succ, i64_w, i32_w]
    rfl
  refine pure_ (i := 6) (N := some 10) (v := ?_) (a' := ?_) #[false, true, false, true, true, true, true, false, false, false] rfl rfl (any_of HT_.out (by kernel_rfl)) (fun _ _ _ h => h) (Or.inl ⟨by rfl, ?_⟩) ?_ ?_
  rotate_left
  · intro w'
    go_simp
    with_reducible rfl
  rotate_left
  · simp only [Act.put, List.setIfInBounds_toArray, List.set_cons_zero, List.set_cons_succ, i64_w, i32_w]
    rfl
  refine inv_at [0, 2, 7, 8, 9] (fun a0_ b a w' => ∃ (v1 v2 v3 : Value) (g : Nat), a = putSel a0_ b [(0, 4, .func (.func 53) #[] #[]), (2, 6, v1), (7, 11, .slice (some ⟨g, 0, none⟩) 1 1), (8, 12, v2), (9, 3, v3)] ∧ Below w.heap.size w w' ∧ (b 2 = true → b 8 = false → w'.ownsRow w.heap.size 63 1 v1 3 (ptrs D [8, 9, 10])) ∧ (b 7 = true → b 8 = false → w'.heap[g]? = some (.cells (ptrs D [12]).toArray 63 (0, 0)) ∧ w.heap.size ≤ g) ∧ (b 8 = true → w'.ownsRow w.heap.size 63 1 v2 4 (ptrs D [8, 9, 10, 12])) ∧ (b 9 = true → v3 = v2)) HT_.out HW_.out (by kernel_rfl) (by kernel_rfl) ?_ ?_ ?_
  · exact ⟨.bool false, .bool false, .bool false, 0, by simp only [putSel, Bool.false_eq_true, if_false], (Below.refl _ _).drew, (fun h => by cases h), (fun h => by cases h), (fun h => by cases h), (fun h => by cases h)⟩
  · skip
    refine steps_cons ?_ ?_
    · rintro b a w' ⟨v1, v2, v3, g, ha, hbel, h1, h2, h3, h5⟩ hb_ hon hoff
      refine ⟨_, rfl, fun K hK => ?_⟩
      have e1 : a.tmps[1]? = some (.pointer (some ⟨B, 0, none⟩)) := by rw [ha]; exact (putSel_off rfl).trans rfl
      have hc := cell_of_one ((hbel.block B hlt).trans hB)
      refine value_ (w1 := w') (v := .func (.func 53) #[] #[]) (by rfl) rfl ?_ ?_
      · clear ha
        go_simp
        (try rfl)
      exact hK.out _ _ ⟨v1, v2, v3, g, (by rw [ha]; exact putSel_upk 0 hb_ rfl rfl rfl), hbel, (fun h h' => h1 (by rwa [up_ne (by decide)] at h) (by rwa [up_ne (by decide)] at h')), (fun h h' => h2 (by rwa [up_ne (by decide)] at h) (by rwa [up_ne (by decide)] at h')), (fun h => h3 (by rwa [up_ne (by decide)] at h)), (fun h => h5 (by rwa [up_ne (by decide)] at h))⟩
    refine steps_cons ?_ ?_
    · rintro b a w' ⟨v1, v2, v3, g, ha, hbel, h1, h2, h3, h5⟩ hb_ hon hoff
      refine ⟨_, rfl, fun K hK => ?_⟩
      have e4 : a.tmps[4]? = some (.func (.func 53) #[] #[]) := by rw [ha]; exact putSel_on (e := (0, 4, .func (.func 53) #[] #[])) 0 rfl rfl (hon 0 (by kernel_rfl)) rfl
      have e5 : a.tmps[5]? = some (.pointer (some ⟨D, 0, none⟩)) := by rw [ha]; exact (putSel_off rfl).trans rfl
      refine call_ 53 #[.pointer (some ⟨D, 0, none⟩)] (by rfl) rfl (dyn_run rfl e4 e5 (by kernel_rfl : Tryd.prog.funcs[53]? = some Tryd.f53) rfl rfl) ?_
      refine (clo4_calls D w').mono ?_
      rintro e w1 ⟨v, rfl, hown, hb1⟩
      refine ⟨v, rfl, ?_⟩
      refine hK.out _ _ ⟨v, v2, v3, g, (by rw [ha]; exact putSel_upk 1 hb_ rfl rfl rfl), hbel.trans (hb1.mono hbel.size), (fun _ _ => hown.mono hbel.size), (fun h h' => ?_), (fun h => ?_), (fun h => h5 (by rwa [up_ne (by decide)] at h))⟩
      · have := h2 (by rwa [up_ne (by decide)] at h) (by rwa [up_ne (by decide)] at h')
        exact ⟨(hb1.block g (Array.getElem?_eq_some_iff.1 this.1).1).trans this.1, this.2⟩
      · rw [up_ne (by decide), hoff 8 (by kernel_rfl)] at h; cases h
    refine steps_cons ?_ ?_
    · rintro b a w' ⟨v1, v2, v3, g, ha, hbel, h1, h2, h3, h5⟩ hb_ hon hoff
      refine ⟨_, rfl, fun K hK => ?_⟩
      have e10 : a.tmps[10]? = some (.pointer (some ⟨D, 12, none⟩)) := by rw [ha]; exact (putSel_off rfl).trans rfl
      refine value_ (w1 := w'.alloc (.cells (ptrs D [12]).toArray 63)) (v := .slice (some ⟨w'.heap.size, 0, none⟩) 1 1) (by rfl) rfl ?_ ?_
      · clear ha
        go_simp
        (try rfl)
      refine hK.out _ _ ⟨v1, v2, v3, w'.heap.size, (by rw [ha]; exact putSel_upk 2 hb_ rfl rfl rfl), hbel.alloc hbel.size _, (fun h h' => (h1 (by rwa [up_ne (by decide)] at h) (by rwa [up_ne (by decide)] at h')).alloc _), (fun h h' => ⟨Array.getElem?_push_size, hbel.size⟩), (fun h => ?_), (fun h => h5 (by rwa [up_ne (by decide)] at h))⟩
      rw [up_ne (by decide), hoff 8 (by kernel_rfl)] at h; cases h
    refine steps_cons ?_ ?_
    · rintro b a w' ⟨v1, v2, v3, g, ha, hbel, h1, h2, h3, h5⟩ hb_ hon hoff
      refine ⟨_, rfl, fun K hK => ?_⟩
      have e6 : a.tmps[6]? = some (v1) := by rw [ha]; exact putSel_on (e := (2, 6, v1)) 1 rfl rfl (hon 2 (by kernel_rfl)) rfl
      have e11 : a.tmps[11]? = some (.slice (some ⟨g, 0, none⟩) 1 1) := by rw [ha]; exact putSel_on (e := (7, 11, .slice (some ⟨g, 0, none⟩) 1 1)) 2 rfl rfl (hon 7 (by kernel_rfl)) rfl
      have hn := h2 (hon 7 (by kernel_rfl)) hb_
      have hw := h1 (hon 2 (by kernel_rfl)) hb_
      obtain ⟨i0, hi, hz0, hz1, hz2⟩ := info_parts' infoP
      rw [if_pos (show Region.wanted _ _ = true from rfl)]
      refine wp_append_own w' (.tmp 6) (.tmp 11) 61 rfl w.heap.size 63 i0 (.pointer none) 1 8 Tryd.underlying61 hi hz0 hz1 hz2 rfl (by decide) v1 3 _ (eval_of e6) hw ⟨g, 0, none⟩ 1 1 (ptrs D [12]) (eval_of e11) rfl ?_ ?_ (by decide) (by decide) hbel.size ?_
      · exact World.news_of_block hn.1
      · intro u hu; simp [ptrs] at hu; (try rcases hu with rfl | rfl) <;> (try subst hu) <;> rfl
      intro v' w1 hown hgrow _
      have hb1 : Below w.heap.size w w1 := hbel.grown hgrow hbel.size (fun k hk => (hw.lt k hk).1)
      refine hK.out _ _ ⟨v1, v', v3, g, (by rw [ha]; exact putSel_upk 3 hb_ rfl rfl rfl), hb1, (fun _ h => by rw [up_self] at h; cases h), (fun _ h => by rw [up_self] at h; cases h), (fun _ => hown), (fun h => by rw [up_ne (by decide), hoff 9 (by kernel_rfl)] at h; cases h)⟩
    refine steps_cons ?_ ?_
    · rintro b a w' ⟨v1, v2, v3, g, ha, hbel, h1, h2, h3, h5⟩ hb_ hon hoff
      refine ⟨_, rfl, fun K hK => ?_⟩
      have e12 : a.tmps[12]? = some (v2) := by rw [ha]; exact putSel_on (e := (8, 12, v2)) 3 rfl rfl (hon 8 (by kernel_rfl)) rfl
      refine value_ (w1 := w') (v := v2) (by rfl) rfl ?_ ?_
      · clear ha
        go_simp
        (try rfl)
      exact hK.out _ _ ⟨v1, v2, v2, g, (by rw [ha]; exact putSel_upk 4 hb_ rfl rfl rfl), hbel, (fun h h' => h1 (by rwa [up_ne (by decide)] at h) (by rwa [up_ne (by decide)] at h')), (fun h h' => h2 (by rwa [up_ne (by decide)] at h) (by rwa [up_ne (by decide)] at h')), (fun h => h3 (by rwa [up_ne (by decide)] at h)), (fun _ => rfl)⟩
    exact steps_nil
  · rintro b a w' hall ⟨v1, v2, v3, g, ha, hbel, h1, h2, h3, h5⟩
    have hb0 := hall 0 (by kernel_rfl)
    have hb2 := hall 2 (by kernel_rfl)
    have hb7 := hall 7 (by kernel_rfl)
    have hb8 := hall 8 (by kernel_rfl)
    have hb9 := hall 9 (by kernel_rfl)
    subst ha
    simp only [putSel, hb0, hb2, hb7, hb8, hb9, if_true, Act.put, List.setIfInBounds_toArray, List.set_cons_zero, List.set_cons_succ]
    have h4 := h3 hb8
    rw [h5 hb9]
    clear h1 h2 h3 h5 hall HT_ HW_ hHeld hb0 hb2 hb7 hb8 hb9
    go_wp2
    go_ret
    exact ⟨_, rfl, h4, hbel⟩
def clo6.T1 : Bool × List (List Nat × List Nat) := (true, [([], []), ([], []), ([0, 1], [0, 1]), ([], []), ([3], [3]), ([4], [4]), ([5], [5]), ([], []), ([7], [7]), ([8], [8]), ([9], [9]), ([6, 10], [6, 10]), ([2, 11, 2], [2, 11]), ([12, 12, 0, 1, 2, 3, 4, 5, 6, 7, 8, 9, 10, 11, 12], [12])])
def clo6.B1 : List Nat := [0, 0, 3, 0, 8, 24, 56, 0, 128, 384, 896, 2040, 4095, 8191]
theorem clo6.tab1 : rtab .any (opsOf Tryd.f55 1) = clo6.T1 := by kernel_rfl
theorem clo6.bits1 : waitsOk clo6.T1.2 clo6.B1 = true := by kernel_rfl
set_option maxHeartbeats 4000000 in
theorem clo6_calls (D B : Nat) (w : World) (hB : w.heap[B]? = some (.cells #[.func (.func 53) #[] #[]] 54 (0, 0))) : Calls Tryd.prog 55 #[.pointer (some ⟨D, 0, none⟩), .pointer (some ⟨B, 0, none⟩)] w fun e w' => ∃ v : Value, e = .returned v ∧ w'.ownsRow w.heap.size 63 1 v 5 (ptrs D [8, 9, 10, 11, 12]) ∧ Below w.heap.size w w' := by
  have hlt : B < w.heap.size := (Array.getElem?_eq_some_iff.1 hB).1
  go_enter Tryd.func55, Tryd.ntmps55
  go_wp2_with fail
  refine start_ (n := 14) (S := fun w' => True) (ds := []) #[false, false, false, false, false, false, false, false, false, false, false, false, false, false] (by kernel_rfl) rfl rfl trivial (fun hHeld => ?_)
  refine with_tabW clo6.tab1 clo6.bits1 (fun HT_ HW_ => ?_)
  refine pure_ (i := 1) (N := some 5) (v := ?_) (a' := ?_) #[false, true, false, false, false, false, false, false, false, false, false, false, false, false] rfl rfl (any_of HT_.out (by kernel_rfl)) (fun _ _ _ h => h) (Or.inl ⟨by rfl, ?_⟩) ?_ ?_
  rotate_left
  · intro w'
    go_simp
    with_reducible rfl
  rotate_left
  · simp only [Act.put, List.setIfInBounds_toArray, List.set_cons_zero, List.set_cons_succ, i64_w, i32_w]
    rfl
  refine pure_ (i := 3) (N := some 7) (v := ?_) (a' := ?_) #[false, true, false, true, false, false, false, false, false, false, false, false, false, false] rfl rfl (any_of HT_.out (by kernel_rfl)) (fun _ _ _ h => h) (Or.inl ⟨by rfl, ?_⟩) ?_ ?_
  rotate_left
  · intro w'
    go_simp
    with_reducible rfl
  rotate_left
  · simp only [Act.put, List.setIfInBounds_toArray, List.set_cons_zero, List.set_cons_succ, i64_w, i32_w]
    rfl
  refine pure_ (i := 4) (N := some 8) (v := ?_) (a' := ?_) #[false, true, false, true, true, false, false, false, false, false, false, false, false, false] rfl rfl (any_of HT_.out (by kernel_rfl)) (fun _ _ _ h => h) (Or.inl ⟨by rfl, ?_⟩) ?_ ?_
  rotate_left
  · intro w'
    go_simp
    with_reducible rfl
  rotate_left
  · simp only [Act.put, List.setIfInBounds_toArray, List.set_cons_zero, List.set_cons_succ, i64_w, i32_w]
    rfl
  refine pure_ (i := 5) (N := some 9) (v := ?_) (a' := ?_) #[false, true, false, true, true, true, false, false, false, false, false, false, false, false] rfl rfl (any_of HT_.out (by kernel_rfl)) (fun _ _ _ h => h) (Or.inl ⟨by rfl, ?_⟩) ?_ ?_
  rotate_left
  · intro w'
    go_simp
    with_reducible rfl
  rotate_left
  · simp only [Act.put, List.setIfInBounds_toArray, List.set_cons_zero, List.set_cons_succ, i64_w, i32_w]
    rfl
  refine pure_ (i := 6) (N := some 10) (v := ?_) (a' := ?_) #[false, true, false, true, true, true, true, false, false, false, false, false, false, false] rfl rfl (any_of HT_.out (by kernel_rfl)) (fun _ _ _ h => h) (Or.inl ⟨by rfl, ?_⟩) ?_ ?_
  rotate_left
  · intro w'
    go_simp
    with_reducible rfl
  rotate_left
  · simp only [Act.put, List.setIfInBounds_toArray, List.set_cons_zero, List.set_cons_succ, i64_w, i32_w]
    rfl
  refine pure_ (i := 7) (N := some 11) (v := ?_) (a' := ?_) #[false, true, false, true, true, true, true, true, false, false, false, false, false, false] rfl rfl (any_of HT_.out (by kernel_rfl)) (fun _ _ _ h => h) (Or.inl ⟨by rfl, ?_⟩) ?_ ?_
  rotate_left
  · intro w'
    go_simp
    with_reducible rfl
  rotate_left
  · simp only [Act.put, List.setIfInBounds_toArray, List.set_cons_zero, List.set_cons_succ, i64_w, i32_w]
    rfl
  refine pure_ (i := 8) (N := some 12) (v := ?_) (a' := ?_) #[false, true, false, true, true, true, true, true, true, false, false, false, false, false] rfl rfl (any_of HT_.out (by kernel_rfl)) (fun _ _ _ h => h) (Or.inl ⟨by rfl, ?_⟩) ?_ ?_
  rotate_left
  · intro w'
    go_simp
    with_reducible rfl
  rotate_left
  · simp only [Act.put, List.setIfInBounds_toArray, List.set_cons_zero, List.set_cons_succ, i64_w, i32_w]
    rfl
  refine pure_ (i := 9) (N := some 13) (v := ?_) (a' := ?_) #[false, true, false, true, true, true, true, true, true, true, false, false, false, false] rfl rfl (any_of HT_.out (by kernel_rfl)) (fun _ _ _ h => h) (Or.inl ⟨by rfl, ?_⟩) ?_ ?_
  rotate_left
  · intro w'
    go_simp
    with_reducible rfl
  rotate_left
  · simp only [Act.put, List.setIfInBounds_toArray, List.set_cons_zero, List.set_cons_succ, i64_w, i32_w]
    rfl
  refine pure_ (i := 10) (N := some 14) (v := ?_) (a' := ?_) #[false, true, false, true, true, true, true, true, true, true, true, false, false, false] rfl rfl (any_of HT_.out (by kernel_rfl)) (fun _ _ _ h => h) (Or.inl ⟨by rfl, ?_⟩) ?_ ?_
  rotate_left
  · intro w'
    go_simp
    with_reducible rfl
  rotate_left
  · simp only [Act.put, List.setIfInBounds_toArray, List.set_cons_zero, List.set_cons_succ, i64_w, i32_w]
    rfl
  refine inv_at [0, 2, 11, 12, 13] (fun a0_ b a w' => ∃ (v1 v2 v3 : Value) (g : Nat), a = putSel a0_ b [(0, 4, .func (.func 53) #[] #[]), (2, 6, v1), (11, 15, .slice (some ⟨g, 0, none⟩) 2 2), (12, 16, v2), (13, 3, v3)] ∧ Below w.heap.size w w' ∧ (b 2 = true → b 12 = false → w'.ownsRow w.heap.size 63 1 v1 3 (ptrs D [8, 9, 10])) ∧ (b 11 = true → b 12 = false → w'.heap[g]? = some (.cells (ptrs D [11, 12]).toArray 63 (0, 0)) ∧ w.heap.size ≤ g) ∧ (b 12 = true → w'.ownsRow w.heap.size 63 1 v2 5 (ptrs D [8, 9, 10, 11, 12])) ∧ (b 13 = true → v3 = v2)) HT_.out HW_.out (by kernel_rfl) (by kernel_rfl) ?_ ?_ ?_
  · exact ⟨.bool false, .bool false, .bool false, 0, by simp only [putSel, Bool.false_eq_true, if_false], (Below.refl _ _).drew, (fun h => by cases h), (fun h => by cases h), (fun h => by cases h), (fun h => by cases h)⟩
  · skip
    refine steps_cons ?_ ?_
    · rintro b a w' ⟨v1, v2, v3, g, ha, hbel, h1, h2, h3, h5⟩ hb_ hon hoff
      refine ⟨_, rfl, fun K hK => ?_⟩
      have e1 : a.tmps[1]? = some (.pointer (some ⟨B, 0, none⟩)) := by rw [ha]; exact (putSel_off rfl).trans rfl
      have hc := cell_of_one ((hbel.block B hlt).trans hB)
      refine value_ (w1 := w') (v := .func (.func 53) #[] #[]) (by rfl) rfl ?_ ?_
      · clear ha
        go_simp
        (try rfl)
      exact hK.out _ _ ⟨v1, v2, v3, g, (by rw [ha]; exact putSel_upk 0 hb_ rfl rfl rfl), hbel, (fun h h' => h1 (by rwa [up_ne (by decide)] at h) (by rwa [up_ne (by decide)] at h')), (fun h h' => h2 (by rwa [up_ne (by decide)] at h) (by rwa [up_ne (by decide)] at h')), (fun h => h3 (by rwa [up_ne (by decide)] at h)), (fun h => h5 (by rwa [up_ne (by decide)] at h))⟩
    refine steps_cons ?_ ?_
    · rintro b a w' ⟨v1, v2, v3, g, ha, hbel, h1, h2, h3, h5⟩ hb_ hon hoff
      refine ⟨_, rfl, fun K hK => ?_⟩
      have e4 : a.tmps[4]? = some (.func (.func 53) #[] #[]) := by rw [ha]; exact putSel_on (e := (0, 4, .func (.func 53) #[] #[])) 0 rfl rfl (hon 0 (by kernel_rfl)) rfl
      have e5 : a.tmps[5]? = some (.pointer (some ⟨D, 0, none⟩)) := by rw [ha]; exact (putSel_off rfl).trans rfl
      refine call_ 53 #[.pointer (some ⟨D, 0, none⟩)] (by rfl) rfl (dyn_run rfl e4 e5 (by kernel_rfl : Tryd.prog.funcs[53]? = some Tryd.f53) rfl rfl) ?_
      refine (clo4_calls D w').mono ?_
      rintro e w1 ⟨v, rfl, hown, hb1⟩
      refine ⟨v, rfl, ?_⟩
      refine hK.out _ _ ⟨v, v2, v3, g, (by rw [ha]; exact putSel_upk 1 hb_ rfl rfl rfl), hbel.trans (hb1.mono hbel.size), (fun _ _ => hown.mono hbel.size), (fun h h' => ?_), (fun h => ?_), (fun h => h5 (by rwa [up_ne (by decide)] at h))⟩
      · have := h2 (by rwa [up_ne (by decide)] at h) (by rwa [up_ne (by decide)] at h')
        exact ⟨(hb1.block g (Array.getElem?_eq_some_iff.1 this.1).1).trans this.1, this.2⟩
      · rw [up_ne (by decide), hoff 12 (by kernel_rfl)] at h; cases h
    refine steps_cons ?_ ?_
    · rintro b a w' ⟨v1, v2, v3, g, ha, hbel, h1, h2, h3, h5⟩ hb_ hon hoff
      refine ⟨_, rfl, fun K hK => ?_⟩
      have e10 : a.tmps[10]? = some (.pointer (some ⟨D, 11, none⟩)) := by rw [ha]; exact (putSel_off rfl).trans rfl
      have e14 : a.tmps[14]? = some (.pointer (some ⟨D, 12, none⟩)) := by rw [ha]; exact (putSel_off rfl).trans rfl
      refine value_ (w1 := w'.alloc (.cells (ptrs D [11, 12]).toArray 63)) (v := .slice (some ⟨w'.heap.size, 0, none⟩) 2 2) (by rfl) rfl ?_ ?_
      · clear ha
        go_simp
        (try rfl)
      refine hK.out _ _ ⟨v1, v2, v3, w'.heap.size, (by rw [ha]; exact putSel_upk 2 hb_ rfl rfl rfl), hbel.alloc hbel.size _, (fun h h' => (h1 (by rwa [up_ne (by decide)] at h) (by rwa [up_ne (by decide)] at h')).alloc _), (fun h h' => ⟨Array.getElem?_push_size, hbel.size⟩), (fun h => ?_), (fun h => h5 (by rwa [up_ne (by decide)] at h))⟩
      rw [up_ne (by decide), hoff 12 (by kernel_rfl)] at h; cases h
    refine steps_cons ?_ ?_
    · rintro b a w' ⟨v1, v2, v3, g, ha, hbel, h1, h2, h3, h5⟩ hb_ hon hoff
      refine ⟨_, rfl, fun K hK => ?_⟩
      have e6 : a.tmps[6]? = some (v1) := by rw [ha]; exact putSel_on (e := (2, 6, v1)) 1 rfl rfl (hon 2 (by kernel_rfl)) rfl
      have e15 : a.tmps[15]? = some (.slice (some ⟨g, 0, none⟩) 2 2) := by rw [ha]; exact putSel_on (e := (11, 15, .slice (some ⟨g, 0, none⟩) 2 2)) 2 rfl rfl (hon 11 (by kernel_rfl)) rfl
      have hn := h2 (hon 11 (by kernel_rfl)) hb_
      have hw := h1 (hon 2 (by kernel_rfl)) hb_
      obtain ⟨i0, hi, hz0, hz1, hz2⟩ := info_parts' infoP
      rw [if_pos (show Region.wanted _ _ = true from rfl)]
      refine wp_append_own w' (.tmp 6) (.tmp 15) 61 rfl w.heap.size 63 i0 (.pointer none) 1 8 Tryd.underlying61 hi hz0 hz1 hz2 rfl (by decide) v1 3 _ (eval_of e6) hw ⟨g, 0, none⟩ 2 2 (ptrs D [11, 12]) (eval_of e15) rfl ?_ ?_ (by decide) (by decide) hbel.size ?_
      · exact World.news_of_block hn.1
      · intro u hu; simp [ptrs] at hu; (try rcases hu with rfl | rfl) <;> (try subst hu) <;> rfl
      intro v' w1 hown hgrow _
      have hb1 : Below w.heap.size w w1 := hbel.grown hgrow hbel.size (fun k hk => (hw.lt k hk).1)
      refine hK.out _ _ ⟨v1, v', v3, g, (by rw [ha]; exact putSel_upk 3 hb_ rfl rfl rfl), hb1, (fun _ h => by rw [up_self] at h; cases h), (fun _ h => by rw [up_self] at h; cases h), (fun _ => hown), (fun h => by rw [up_ne (by decide), hoff 13 (by kernel_rfl)] at h; cases h)⟩
    refine steps_cons ?_ ?_
    · rintro b a w' ⟨v1, v2, v3, g, ha, hbel, h1, h2, h3, h5⟩ hb_ hon hoff
      refine ⟨_, rfl, fun K hK => ?_⟩
      have e16 : a.tmps[16]? = some (v2) := by rw [ha]; exact putSel_on (e := (12, 16, v2)) 3 rfl rfl (hon 12 (by kernel_rfl)) rfl
      refine value_ (w1 := w') (v := v2) (by rfl) rfl ?_ ?_
      · clear ha
        go_simp
        (try rfl)
      exact hK.out _ _ ⟨v1, v2, v2, g, (by rw [ha]; exact putSel_upk 4 hb_ rfl rfl rfl), hbel, (fun h h' => h1 (by rwa [up_ne (by decide)] at h) (by rwa [up_ne (by decide)] at h')), (fun h h' => h2 (by rwa [up_ne (by decide)] at h) (by rwa [up_ne (by decide)] at h')), (fun h => h3 (by rwa [up_ne (by decide)] at h)), (fun _ => rfl)⟩
    exact steps_nil
  · rintro b a w' hall ⟨v1, v2, v3, g, ha, hbel, h1, h2, h3, h5⟩
    have hb0 := hall 0 (by kernel_rfl)
    have hb2 := hall 2 (by kernel_rfl)
    have hb11 := hall 11 (by kernel_rfl)
    have hb12 := hall 12 (by kernel_rfl)
    have hb13 := hall 13 (by kernel_rfl)
    subst ha
    simp only [putSel, hb0, hb2, hb11, hb12, hb13, if_true, Act.put, List.setIfInBounds_toArray, List.set_cons_zero, List.set_cons_succ]
    have h4 := h3 hb12
    rw [h5 hb13]
    clear h1 h2 h3 h5 hall HT_ HW_ hHeld hb0 hb2 hb11 hb12 hb13
    go_wp2
    go_ret
    exact ⟨_, rfl, h4, hbel⟩
theorem num_calls (o k : Int) (hp : (o, k) ∈ pairs) (D B : Nat) (w : World) (hB : w.heap[B]? = some (.cells #[.func (.func 53) #[] #[]] 54 (0, 0))) :
    Calls Tryd.prog (numOf o k) (#[.pointer (some ⟨D, 0, none⟩)] ++ capsOf B o k) w fun e w' => ∃ v : Value, e = .returned v ∧ w'.ownsRow w.heap.size 63 1 v (offs o k).length (ptrs D (offs o k)) ∧ Below w.heap.size w w' := by
  simp only [pairs, List.mem_cons, List.not_mem_nil, or_false, Prod.mk.injEq] at hp
  rcases hp with ⟨rfl, rfl⟩ | ⟨rfl, rfl⟩ | ⟨rfl, rfl⟩ | ⟨rfl, rfl⟩ | ⟨rfl, rfl⟩ | ⟨rfl, rfl⟩
  · exact clo3_calls D w
  · exact clo1_calls D w
  · exact clo2_calls D w
  · exact clo6_calls D B w hB
  · exact clo4_calls D w
  · exact clo5_calls D B w hB
end Go.Proofs.YtndijkndllpkgaaDoor.Frm
/- What the walks of direct.Right, Words, find and Parse share: whole structs stored, a closure called, the numbers copied. -/
namespace Go.Proofs.YtndijkndllpkgaaDoor.Frm
open Go.RowKit Go.Proofs.YtndijkndllpkgaaDoorW.PrintWords Go.Proofs.YtndijkndllpkgaaDoorW.PrintLast
set_option linter.unusedVariables false
set_option linter.unusedSimpArgs false

theorem dynL_ {P : Program} {ops : Array Oper} {Q : Exit → Act → World → Prop} {rest : List Oper} {oi : Oper} {a : Act} {w : World} (N : Option Tmp) (hd : oi.dst = N) (hg : oi.guard = none) {x y : Tmp} {ts : Array TypeId} {f : FuncId} {fn : Func} {caps : Array Value} {v : Value}
    (ho : oi.op = .call { callee := .value (.tmp x), args := #[.tmp y], argTypes := ts }) (e1 : a.tmps[x]? = some (.func (.func f) #[] caps)) (e2 : a.tmps[y]? = some v) (hf : P.funcs[f]? = some fn) (hname : (fn.name == "runtime.NumGoroutine") = false) (hb : fn.body.isSome = true)
    (h : Calls P f (#[v] ++ caps) w fun e w' => ∃ u, e = .returned u ∧ wpList P ops Q rest (a.put N u) w') : wpList P ops Q (oi :: rest) a w := by
  refine wpList_plain hg fun K hK => ?_
  unfold Oper.wp
  rw [dyn_run ho e1 e2 hf hname hb, Oper.upon_enter]
  refine h.mono fun e w'' hh => ?_
  obtain ⟨u, rfl, hk⟩ := hh
  subst hd
  exact hK _ _ hk

theorem num_fn (o k : Int) (hp : (o, k) ∈ pairs) : ∃ fn, Tryd.prog.funcs[numOf o k]? = some fn ∧ (fn.name == "runtime.NumGoroutine") = false ∧ fn.body.isSome = true := by
  simp only [pairs, List.mem_cons, List.not_mem_nil, or_false, Prod.mk.injEq] at hp
  rcases hp with ⟨rfl, rfl⟩ | ⟨rfl, rfl⟩ | ⟨rfl, rfl⟩ | ⟨rfl, rfl⟩ | ⟨rfl, rfl⟩ | ⟨rfl, rfl⟩
  · exact ⟨Tryd.f52, by kernel_rfl, rfl, rfl⟩
  · exact ⟨Tryd.f50, by kernel_rfl, rfl, rfl⟩
  · exact ⟨Tryd.f51, by kernel_rfl, rfl, rfl⟩
  · exact ⟨Tryd.f55, by kernel_rfl, rfl, rfl⟩
  · exact ⟨Tryd.f53, by kernel_rfl, rfl, rfl⟩
  · exact ⟨Tryd.f54, by kernel_rfl, rfl, rfl⟩

theorem there_of_block {w : World} {g : Nat} {cs : Array Value} {t : TypeId} (h : w.heap[g]? = some (.cells cs t (0, 0))) {n : Nat} (hn : n ≤ cs.size) : w.there g 0 n := fun j hj => by
  rw [Nat.zero_add, blk_cell h, blk_frozen h]
  exact ⟨by rw [Array.getElem?_eq_getElem (by omega)]; rfl, rfl⟩
theorem range_of_block {w : World} {g : Nat} {cs : Array Value} {t : TypeId} (h : w.heap[g]? = some (.cells cs t (0, 0))) : w.rangeAt g 0 cs.toList := fun j v hv => by
  rw [Nat.zero_add, blk_cell h]; simpa using hv

def setFrom (cs : Array Value) : Nat → List Value → Array Value
  | _, [] => cs
  | o, v :: r => setFrom (cs.setIfInBounds o v) (o + 1) r
theorem setFrom_spec : ∀ (vs pre old : List Value) (cs : Array Value), cs.toList = pre ++ old → vs.length = old.length → (setFrom cs pre.length vs).toList = pre ++ vs
  | [], pre, old, cs, h, hl => by
    cases old with
    | nil => simpa [setFrom] using h
    | cons _ _ => simp at hl
  | v :: r, pre, old, cs, h, hl => by
    cases old with
    | nil => simp at hl
    | cons x old =>
      have h1 : (cs.setIfInBounds pre.length v).toList = (pre ++ [v]) ++ old := by
        rw [Array.toList_setIfInBounds, h]
        simp
      have h2 := setFrom_spec r (pre ++ [v]) old _ h1 (by simpa using hl)
      rw [setFrom]
      simpa using h2
theorem setFrom_all {vs : List Value} {cs : Array Value} (h : vs.length = cs.size) : setFrom cs 0 vs = vs.toArray := by
  apply Array.ext'
  have := setFrom_spec vs [] cs.toList cs rfl (by simpa using h)
  simpa using this
theorem heap_setCells {g : Nat} {t : TypeId} : ∀ (vs : List Value) (o : Nat) (w : World) (cs : Array Value), w.heap[g]? = some (.cells cs t (0, 0)) → (w.setCells g o vs).heap[g]? = some (.cells (setFrom cs o vs) t (0, 0))
  | [], _, _, _, h => h
  | v :: r, o, w, cs, h => heap_setCells r (o + 1) _ _ (blk_set h o v)
theorem heap_setCells_other {g i : Nat} (hi : i ≠ g) : ∀ (vs : List Value) (o : Nat) (w : World), (w.setCells g o vs).heap[i]? = w.heap[i]?
  | [], _, _ => rfl
  | v :: r, o, w => (heap_setCells_other hi r (o + 1) _).trans (Below.heap_setCell _ _ _ _ hi)
theorem below_setCells {g B : Nat} (hB : B ≤ g) : ∀ (vs : List Value) (o : Nat) (w : World), Below B w (w.setCells g o vs)
  | [], _, w => Below.refl _ _
  | v :: r, o, w => ((Below.refl B w).setCell (p := ⟨g, o, none⟩) hB v).trans (below_setCells hB r (o + 1) _)

/-- A whole struct stored into its variable. -/
theorem store_all {P : Program} {w : World} {g : Nat} {t ty : TypeId} {cs cells : Array Value} (hb : w.heap[g]? = some (.cells cs t (0, 0))) (hs : cells.size = cs.size) (hi : (P.info? ty).map (·.size) = some cells.size) (h1 : cells.all (·.oneCell') = true) :
    (Instr.storeAt ty (.pointer (some ⟨g, 0, none⟩)) (.agg cells)).run P w = .ok () (w.setCells g 0 cells.toList) ∧ (w.setCells g 0 cells.toList).heap[g]? = some (.cells cells t (0, 0)) :=
  ⟨run_storeAt_mid w g 0 ty cells (there_of_block hb (by omega)) hi h1, by rw [heap_setCells _ _ _ _ hb, setFrom_all (by simpa using hs)]⟩

theorem store_run {P : Program} {a : Act} {o : Oper} {t : TypeId} {x y : Tmp} {p v : Value} {w w1 : World} (ho : o.op = .store t (.tmp x) (.tmp y)) (e1 : a.tmps[x]? = some p) (e2 : a.tmps[y]? = some v) (h : (Instr.storeAt t p v).run P w = .ok () w1) : (execOp a.eval o).run P w = .ok .skip w1 := by
  unfold execOp
  simp [ho, eval_of e1, eval_of e2, h]
theorem lookup_run {P : Program} {a : Act} {o : Oper} {t : TypeId} {x y : Tmp} {c : Bool} {m k v : Value} {w w1 : World} (ho : o.op = .lookup t (.tmp x) (.tmp y) c) (e1 : a.tmps[x]? = some m) (e2 : a.tmps[y]? = some k) (h : (Instr.lookup t m k c).run P w = .ok v w1) : (execOp a.eval o).run P w = .ok (.value v) w1 := by
  unfold execOp
  simp [ho, eval_of e1, eval_of e2, h]

theorem load_run {P : Program} {a : Act} {o : Oper} {t : TypeId} {x : Tmp} {p v : Value} {w w1 : World} (ho : o.op = .load t (.tmp x)) (e1 : a.tmps[x]? = some p) (h : (Instr.loadAt t p).run P w = .ok v w1) : (execOp a.eval o).run P w = .ok (.value v) w1 := by
  unfold execOp
  simp [ho, eval_of e1, h]
/-- A part of a block that is known whole. -/
theorem range_part {w : World} {g : Nat} {cs : Array Value} {t : TypeId} (h : w.heap[g]? = some (.cells cs t (0, 0))) (o : Nat) (l : List Value) (hl : (cs.toList.drop o).take l.length = l) : w.rangeAt g o l := fun j v hv => by
  rw [blk_cell h]
  have hj : j < l.length := (List.getElem?_eq_some_iff.1 hv).1
  rw [← hl, List.getElem?_take_of_lt hj, List.getElem?_drop] at hv
  simpa using hv

/-- A whole struct stored, in a plain region. -/
theorem wpList_store_blk {P : Program} {ops : Array Oper} {rest : List Oper} {op : Oper} {a : Act} {w : World} {Q : Exit → Act → World → Prop} (hgd : op.guard = none) (ty : TypeId) (x y : Operand) (ho : op.op = .store ty x y)
    (g : Nat) {t : TypeId} {cs : Array Value} (cells : Array Value) (hx : a.eval x = .pointer (some ⟨g, 0, none⟩)) (hy : a.eval y = .agg cells) (hb : w.heap[g]? = some (.cells cs t (0, 0))) (hs : cells.size = cs.size)
    (hi : (P.info? ty).map (·.size) = some cells.size) (h1 : cells.all (·.oneCell') = true)
    (h : ∀ w1, w1.heap[g]? = some (.cells cells t (0, 0)) → (∀ i, i ≠ g → w1.heap[i]? = w.heap[i]?) → (∀ B, B ≤ g → Below B w w1) → wpList P ops Q rest (a.put op.dst undef) w1) : wpList P ops Q (op :: rest) a w := by
  obtain ⟨_, s2⟩ := store_all (P := P) (ty := ty) hb hs hi h1
  exact wpList_store_mid hgd ty x y ho g 0 cells hx hy (there_of_block hb (by omega)) hi h1 (h _ s2 (fun i hi => heap_setCells_other hi _ _ _) (fun B hB => below_setCells hB _ _ _))
/-- One cell stored, in a plain region. -/
theorem wpList_store_one {P : Program} {ops : Array Oper} {rest : List Oper} {op : Oper} {a : Act} {w : World} {Q : Exit → Act → World → Prop} (hgd : op.guard = none) (ty : TypeId) (x y : Operand) (ho : op.op = .store ty x y)
    (g i : Nat) {t : TypeId} {cs : Array Value} (v : Value) (cs' : Array Value) (hx : a.eval x = .pointer (some ⟨g, i, none⟩)) (hy : a.eval y = v) (hb : w.heap[g]? = some (.cells cs t (0, 0))) (hi : i < cs.size) (hcs : cs.setIfInBounds i v = cs')
    (hrun : ∀ w : World, (w.cell? ⟨g, i, none⟩).isSome = true → w.frozen? ⟨g, i, none⟩ = false → (Instr.storeAt ty (.pointer (some ⟨g, i, none⟩)) v).run P w = .ok () (w.setCell ⟨g, i, none⟩ v))
    (h : ∀ w1, w1.heap[g]? = some (.cells cs' t (0, 0)) → (∀ j, j ≠ g → w1.heap[j]? = w.heap[j]?) → (∀ B, B ≤ g → Below B w w1) → wpList P ops Q rest (a.put op.dst undef) w1) : wpList P ops Q (op :: rest) a w := by
  refine wpList_plain hgd fun K hK => ?_
  unfold Oper.wp execOp
  have hr := hrun w (by rw [blk_cell hb, Array.getElem?_eq_getElem hi]; rfl) (blk_frozen hb i)
  simp only [ho, hx, hy, hr, Sem.run_bind, Result.andThen_ok, Sem.run_pure]
  exact hK _ _ (h _ (blk_put hb i v hcs) (fun j hj => Below.heap_setCell _ _ _ _ hj) (fun B hB => (Below.refl B w).setCell (p := ⟨g, i, none⟩) hB v))
theorem store_int {P : Program} (ty : TypeId) (k : IntKind) (n : Int) (g i : Nat) (w : World) (hc : (w.cell? ⟨g, i, none⟩).isSome = true) (hf : w.frozen? ⟨g, i, none⟩ = false) (hu : P.underlying ty = some (.int k)) (hi : (P.info? ty).map (·.size) = some 1) : (Instr.storeAt ty (.pointer (some ⟨g, i, none⟩)) (.int k n)).run P w = .ok () (w.setCell ⟨g, i, none⟩ (.int k n)) := by
  obtain ⟨v, hv⟩ := Option.isSome_iff_exists.1 hc
  cases hq : P.info? ty with
  | none => simp [hq] at hi
  | some j =>
    have hs : j.size = 1 := by simpa [hq] using hi
    have hz : (sizeOf ty).run P w = .ok 1 w := by simp [sizeOf, typeInfo, hq, hs]
    go_simp

def ints (l : List Int) : List Value := l.map (Value.int .i64)
def copyO : List Nat → List Int → List Int → List Int
  | [], _, dst => dst
  | o :: r, src, dst => copyO r src (dst.set o (src.getD o 0))
theorem copyO_length : ∀ (l : List Nat) (src dst : List Int), (copyO l src dst).length = dst.length
  | [], _, _ => rfl
  | o :: r, src, dst => by rw [copyO, copyO_length r]; simp
theorem copyO_snoc : ∀ (l : List Nat) (o : Nat) (src dst : List Int), copyO (l ++ [o]) src dst = (copyO l src dst).set o (src.getD o 0)
  | [], _, _, _ => rfl
  | p :: r, o, src, dst => by rw [List.cons_append, copyO, copyO, copyO_snoc r]
theorem offs_lt (o k : Int) : ∀ x ∈ offs o k, x < 13 := by
  unfold offs
  (repeat' split) <;> (intro x hx; simp at hx; omega)
theorem offs_pos (o k : Int) : 0 < (offs o k).length := by
  unfold offs
  (repeat' split) <;> simp
theorem offs_le (o k : Int) : (offs o k).length ≤ 6 := by
  unfold offs
  (repeat' split) <;> simp
theorem ptrs_get {D : Nat} {l : List Nat} {i o : Nat} (h : l[i]? = some o) : (ptrs D l)[i]? = some (.pointer (some ⟨D, o, none⟩)) := by simp [ptrs, h]
theorem ints_get {l : List Int} {o : Nat} (h : o < l.length) : (ints l).toArray[o]? = some (.int .i64 (l.getD o 0)) := by
  simp [ints, List.getD_eq_getElem?_getD, h]
theorem ints_set (l : List Int) (o : Nat) (x : Int) : (ints l).toArray.setIfInBounds o (.int .i64 x) = (ints (l.set o x)).toArray := by
  simp [ints, List.map_set]
theorem own_ne {w : World} {base : Nat} {e t : TypeId} {size n : Nat} {v : Value} {xs : List Value} {g : Nat} {cs : Array Value} (h : w.ownsRow base e size v n xs) (hg : w.heap[g]? = some (.cells cs t (0, 0))) (hne : e ≠ t) : v.ownBlock ≠ some g := by
  intro hk
  obtain ⟨_, h2⟩ := h
  rcases h2 with h2 | ⟨g', cap, cur, hv, _, hh, _⟩
  · rw [h2.1] at hk; cases hk
  · rw [hv] at hk
    have : g' = g := by simpa [Value.ownBlock] using hk
    subst this
    rw [hh] at hg
    simp at hg
    exact hne hg.2
theorem ownsRow_formE {w : World} {base size n : Nat} {e : TypeId} {v : Value} {xs : List Value} (h : w.ownsRow base e size v n xs) (hn : 0 < n) : ∃ g cap, v = .slice (some ⟨g, 0, none⟩) n cap := by
  obtain ⟨_, h2⟩ := h
  rcases h2 with h2 | ⟨g, cap, _, hv, _⟩
  · omega
  · exact ⟨g, cap, hv⟩
theorem own_below {w w' : World} {base size n : Nat} {e : TypeId} {v : Value} {xs : List Value} (h : w.ownsRow base e size v n xs) (hb : Below w.heap.size w w') : w'.ownsRow base e size v n xs := by
  refine ⟨h.1, ?_⟩
  rcases h.2 with h2 | ⟨g, cap, cur, hv, hg, hh, r⟩
  · exact .inl h2
  · exact .inr ⟨g, cap, cur, hv, hg, (hb.block g (blk_lt hh)).trans hh, r⟩
theorem own_set {w : World} {base size n : Nat} {e : TypeId} {v : Value} {xs : List Value} (h : w.ownsRow base e size v n xs) {g : Nat} {t : TypeId} {cs : Array Value} (hg : w.heap[g]? = some (.cells cs t (0, 0))) (hne : e ≠ t) (i : Nat) (u : Value) : (w.setCell ⟨g, i, none⟩ u).ownsRow base e size v n xs :=
  ownsRow_setCell_other h (own_ne h hg hne) u
theorem valV_one (B : Nat) (o k : Int) : (#[.string (opS o), .string (kdS k), fnV B o k] : Array Value).all (·.oneCell') = true := by
  simp [Value.oneCell', fnV]
end Go.Proofs.YtndijkndllpkgaaDoor.Frm
/- The walk of num.In by explicit steps (wip/xw.py). -/
namespace Go.Proofs.YtndijkndllpkgaaDoor.Pr
open Go.RowKit Go.Proofs.YtndijkndllpkgaaDoorW.PrintWords Go.Proofs.YtndijkndllpkgaaDoorW.PrintLast Go.Proofs.YtndijkndllpkgaaDoorW.PrintMore Go.Proofs.YtndijkndllpkgaaDoor.X
set_option linter.unusedVariables false
set_option linter.unusedSimpArgs false
def num_In.f (a0 : Int) (a1 : Int) (a2 : Int) : Option (Bool) := bif decide (a1 ≤ a0) then (some (decide (a0 ≤ a2))) else (some false)
set_option maxHeartbeats 4000000 in
set_option maxRecDepth 100000 in
theorem num_In.calls (a0 : Int) (a1 : Int) (a2 : Int) (r : Bool) (w : World) (h : num_In.f a0 a1 a2 = some r) :
    Calls Tryd.prog 19 #[.int .i64 a0, .int .i64 a1, .int .i64 a2] w fun e w' => e = .returned (.bool r) ∧ Below w.heap.size w w' := by
  unfold num_In.f at h
  have HB := Aside0.mk (Below.refl w.heap.size w)
  refine calls_x (args := [.int .i64 a0, .int .i64 a1, .int .i64 a2]) Tryd.func19 rfl 15 15 rfl rfl (fun ac0 F0 => ?_)
  refine wp_seq_k (fun K1 hK1 => ?_)
  refine wp_region_lit ?_
  refine sv (v := .bool false) F0 (run_guard rfl) rfl rfl (r_assign rfl ev_c) (fun ac1 F1 => ?_)
  clear F0 ac0
  refine c_end F1 ?_
  refine hK1 _ _ ?_
  refine wp_seq_k (fun K2 hK2 => ?_)
  refine wp_region_lit ?_
  refine sv (v := .int .i64 a1) F1 (run_guard rfl) rfl rfl (r_move rfl (F1.ev rfl)) (fun ac2 F2 => ?_)
  clear F1 ac1
  refine sv (v := .int .i64 a0) F2 (run_guard rfl) rfl rfl (r_move rfl (F2.ev rfl)) (fun ac3 F3 => ?_)
  clear F2 ac2
  refine sv (v := .bool (decide (a1 ≤ a0))) F3 (run_guard rfl) rfl rfl (r_leq rfl (F3.ev rfl) (F3.ev rfl)) (fun ac4 F4 => ?_)
  clear F3 ac3
  refine sv (v := .bool (decide (a1 ≤ a0))) F4 (run_guard rfl) rfl rfl (r_move rfl (F4.ev rfl)) (fun ac5 F5 => ?_)
  clear F4 ac4
  cases hT1 : decide (a1 ≤ a0) with
  | true =>
    replace h := cond_t hT1 h
    refine sv (v := .int .i64 a0) F5 (g_on F5 rfl rfl rfl (lk rfl hT1)) rfl rfl (r_move rfl (F5.ev rfl)) (fun ac6 F6 => ?_)
    clear F5 ac5
    refine sv (v := .int .i64 a2) F6 (g_on F6 rfl rfl rfl (lk rfl hT1)) rfl rfl (r_move rfl (F6.ev rfl)) (fun ac7 F7 => ?_)
    clear F6 ac6
    refine sv (v := .bool (decide (a0 ≤ a2))) F7 (g_on F7 rfl rfl rfl (lk rfl hT1)) rfl rfl (r_leq rfl (F7.ev rfl) (F7.ev rfl)) (fun ac8 F8 => ?_)
    clear F7 ac7
    refine sv (v := .bool (decide (a0 ≤ a2))) F8 (run_guard rfl) rfl rfl (r_pick_t rfl (F8.ev (lk rfl hT1)) (F8.ev rfl)) (fun ac9 F9 => ?_)
    clear F8 ac8
    refine sv (v := .bool (decide (a0 ≤ a2))) F9 (run_guard rfl) rfl rfl (r_assign rfl (F9.ev rfl)) (fun ac10 F10 => ?_)
    clear F9 ac9
    refine c_end F10 ?_
    refine hK2 _ _ ?_
    refine wp_ret ?_
    (try simp only [Exit.then, Exit.inBlock])
    refine retx (fn := Tryd.f19) F10 (results1 (fn := Tryd.f19) rfl (rv_t (t := 6) (v := .bool (decide (a0 ≤ a2))) F10 rfl)) ?_
    cases h
    exact ⟨rfl, HB.out⟩
  | false =>
    replace h := cond_f hT1 h
    refine so F5 (g_off F5 rfl rfl rfl (lk rfl hT1)) rfl rfl (fun ac11 F11 => ?_)
    clear F5 ac5
    refine so F11 (g_off F11 rfl rfl rfl (lk rfl hT1)) rfl rfl (fun ac12 F12 => ?_)
    clear F11 ac11
    refine so F12 (g_off F12 rfl rfl rfl (lk rfl hT1)) rfl rfl (fun ac13 F13 => ?_)
    clear F12 ac12
    refine sv (v := .bool false) F13 (run_guard rfl) rfl rfl (r_pick_f rfl (F13.ev (lk rfl hT1)) ev_c) (fun ac14 F14 => ?_)
    clear F13 ac13
    refine sv (v := .bool false) F14 (run_guard rfl) rfl rfl (r_assign rfl (F14.ev rfl)) (fun ac15 F15 => ?_)
    clear F14 ac14
    refine c_end F15 ?_
    refine hK2 _ _ ?_
    refine wp_ret ?_
    (try simp only [Exit.then, Exit.inBlock])
    refine retx (fn := Tryd.f19) F15 (results1 (fn := Tryd.f19) rfl (rv_t (t := 6) (v := .bool false) F15 rfl)) ?_
    cases h
    exact ⟨rfl, HB.out⟩
end Go.Proofs.YtndijkndllpkgaaDoor.Pr
/- The walk of check.span by explicit steps (wip/xw.py). -/
namespace Go.Proofs.YtndijkndllpkgaaDoor.Pr
open Go.RowKit Go.Proofs.YtndijkndllpkgaaDoorW.PrintWords Go.Proofs.YtndijkndllpkgaaDoorW.PrintLast Go.Proofs.YtndijkndllpkgaaDoorW.PrintMore Go.Proofs.YtndijkndllpkgaaDoor.X
set_option linter.unusedVariables false
set_option linter.unusedSimpArgs false
def check_span.f (a0 : Int) (a1 : Int) : Option (Bool) := (num_In.f a0 0 (wrap64 (a1 - 1))).bind fun y1 => (bif y1 then ((num_In.f a1 1 2147483647).bind fun y2 => (some y2)) else (some false))
set_option maxHeartbeats 4000000 in
set_option maxRecDepth 100000 in
theorem check_span.calls (a0 : Int) (a1 : Int) (r : Bool) (w : World) (h : check_span.f a0 a1 = some r) :
    Calls Tryd.prog 48 #[.int .i64 a0, .int .i64 a1] w fun e w' => e = .returned (.bool r) ∧ Below w.heap.size w w' := by
  unfold check_span.f at h
  have HB := Aside0.mk (Below.refl w.heap.size w)
  refine calls_x (args := [.int .i64 a0, .int .i64 a1]) Tryd.func48 rfl 13 13 rfl rfl (fun ac0 F0 => ?_)
  refine wp_seq_k (fun K1 hK1 => ?_)
  refine wp_region_lit ?_
  refine sv (v := .bool false) F0 (run_guard rfl) rfl rfl (r_assign rfl ev_c) (fun ac1 F1 => ?_)
  clear F0 ac0
  refine c_end F1 ?_
  refine hK1 _ _ ?_
  refine wp_seq_k (fun K2 hK2 => ?_)
  refine wp_region_lit ?_
  refine sv (v := .int .i64 a0) F1 (run_guard rfl) rfl rfl (r_move rfl (F1.ev rfl)) (fun ac2 F2 => ?_)
  clear F1 ac1
  refine sv (v := .int .i64 a1) F2 (run_guard rfl) rfl rfl (r_move rfl (F2.ev rfl)) (fun ac3 F3 => ?_)
  clear F2 ac2
  refine sv (v := .int .i64 (wrap64 (a1 - 1))) F3 (run_guard rfl) rfl rfl (r_sub rfl (F3.ev rfl) ev_c) (fun ac4 F4 => ?_)
  clear F3 ac3
  replace h := Option.bind_eq_some_iff.1 h
  obtain ⟨y1, hy, h⟩ := h
  refine sc F4 (run_guard rfl) rfl rfl (r_call rfl Tryd.func19 (by kernel_rfl) rfl rfl (m3 (F4.ev rfl) ev_c (F4.ev rfl))) ?_
  refine (num_In.calls a0 0 (wrap64 (a1 - 1)) _ _ hy).mono ?_
  rintro e w1 ⟨rfl, hE⟩
  clear hy
  replace HB := Aside0.mk (below_step HB.out hE)
  refine ⟨_, rfl, fun ac5 F5 => ?_⟩
  clear hE F4 ac4
  refine sv (v := .bool y1) F5 (run_guard rfl) rfl rfl (r_move rfl (F5.ev rfl)) (fun ac6 F6 => ?_)
  clear F5 ac5
  cases hT1 : y1 with
  | true =>
    replace h := cond_t hT1 h
    refine sv (v := .int .i64 a1) F6 (g_on F6 rfl rfl rfl (lk rfl hT1)) rfl rfl (r_move rfl (F6.ev rfl)) (fun ac7 F7 => ?_)
    clear F6 ac6
    replace h := Option.bind_eq_some_iff.1 h
    obtain ⟨y2, hy, h⟩ := h
    refine sc F7 (g_on F7 rfl rfl rfl (lk rfl hT1)) rfl rfl (r_call rfl Tryd.func19 (by kernel_rfl) rfl rfl (m3 (F7.ev rfl) ev_c ev_c)) ?_
    refine (num_In.calls a1 1 2147483647 _ _ hy).mono ?_
    rintro e w2 ⟨rfl, hE⟩
    clear hy
    replace HB := Aside0.mk (below_step HB.out hE)
    refine ⟨_, rfl, fun ac8 F8 => ?_⟩
    clear hE F7 ac7
    refine sv (v := .bool y2) F8 (run_guard rfl) rfl rfl (r_pick_t rfl (F8.ev (lk rfl hT1)) (F8.ev rfl)) (fun ac9 F9 => ?_)
    clear F8 ac8
    refine sv (v := .bool y2) F9 (run_guard rfl) rfl rfl (r_assign rfl (F9.ev rfl)) (fun ac10 F10 => ?_)
    clear F9 ac9
    refine c_end F10 ?_
    refine hK2 _ _ ?_
    refine wp_ret ?_
    (try simp only [Exit.then, Exit.inBlock])
    refine retx (fn := Tryd.f48) F10 (results1 (fn := Tryd.f48) rfl (rv_t (t := 4) (v := .bool y2) F10 rfl)) ?_
    cases h
    exact ⟨rfl, HB.out⟩
  | false =>
    replace h := cond_f hT1 h
    refine so F6 (g_off F6 rfl rfl rfl (lk rfl hT1)) rfl rfl (fun ac11 F11 => ?_)
    clear F6 ac6
    refine so F11 (g_off F11 rfl rfl rfl (lk rfl hT1)) rfl rfl (fun ac12 F12 => ?_)
    clear F11 ac11
    refine sv (v := .bool false) F12 (run_guard rfl) rfl rfl (r_pick_f rfl (F12.ev (lk rfl hT1)) ev_c) (fun ac13 F13 => ?_)
    clear F12 ac12
    refine sv (v := .bool false) F13 (run_guard rfl) rfl rfl (r_assign rfl (F13.ev rfl)) (fun ac14 F14 => ?_)
    clear F13 ac13
    refine c_end F14 ?_
    refine hK2 _ _ ?_
    refine wp_ret ?_
    (try simp only [Exit.then, Exit.inBlock])
    refine retx (fn := Tryd.f48) F14 (results1 (fn := Tryd.f48) rfl (rv_t (t := 4) (v := .bool false) F14 rfl)) ?_
    cases h
    exact ⟨rfl, HB.out⟩
end Go.Proofs.YtndijkndllpkgaaDoor.Pr
/- The walk of check.Node by explicit steps (wip/xw.py). -/
namespace Go.Proofs.YtndijkndllpkgaaDoor.Pr
open Go.RowKit Go.Proofs.YtndijkndllpkgaaDoorW.PrintWords Go.Proofs.YtndijkndllpkgaaDoorW.PrintLast Go.Proofs.YtndijkndllpkgaaDoorW.PrintMore Go.Proofs.YtndijkndllpkgaaDoor.X
set_option linter.unusedVariables false
set_option linter.unusedSimpArgs false
def check_Node.f (a0 : Int) : Option (Bool) := (num_In.f a0 1 255).bind fun y1 => (some y1)
set_option maxHeartbeats 4000000 in
set_option maxRecDepth 100000 in
theorem check_Node.calls (a0 : Int) (r : Bool) (w : World) (h : check_Node.f a0 = some r) :
    Calls Tryd.prog 57 #[.int .i64 a0] w fun e w' => e = .returned (.bool r) ∧ Below w.heap.size w w' := by
  unfold check_Node.f at h
  have HB := Aside0.mk (Below.refl w.heap.size w)
  refine calls_x (args := [.int .i64 a0]) Tryd.func57 rfl 5 5 rfl rfl (fun ac0 F0 => ?_)
  refine wp_seq_k (fun K1 hK1 => ?_)
  refine wp_region_lit ?_
  refine sv (v := .bool false) F0 (run_guard rfl) rfl rfl (r_assign rfl ev_c) (fun ac1 F1 => ?_)
  clear F0 ac0
  refine c_end F1 ?_
  refine hK1 _ _ ?_
  refine wp_seq_k (fun K2 hK2 => ?_)
  refine wp_region_lit ?_
  refine sv (v := .int .i64 a0) F1 (run_guard rfl) rfl rfl (r_move rfl (F1.ev rfl)) (fun ac2 F2 => ?_)
  clear F1 ac1
  replace h := Option.bind_eq_some_iff.1 h
  obtain ⟨y1, hy, h⟩ := h
  refine sc F2 (run_guard rfl) rfl rfl (r_call rfl Tryd.func19 (by kernel_rfl) rfl rfl (m3 (F2.ev rfl) ev_c ev_c)) ?_
  refine (num_In.calls a0 1 255 _ _ hy).mono ?_
  rintro e w1 ⟨rfl, hE⟩
  clear hy
  replace HB := Aside0.mk (below_step HB.out hE)
  refine ⟨_, rfl, fun ac3 F3 => ?_⟩
  clear hE F2 ac2
  refine sv (v := .bool y1) F3 (run_guard rfl) rfl rfl (r_assign rfl (F3.ev rfl)) (fun ac4 F4 => ?_)
  clear F3 ac3
  refine c_end F4 ?_
  refine hK2 _ _ ?_
  refine wp_ret ?_
  (try simp only [Exit.then, Exit.inBlock])
  refine retx (fn := Tryd.f57) F4 (results1 (fn := Tryd.f57) rfl (rv_t (t := 2) (v := .bool y1) F4 rfl)) ?_
  cases h
  exact ⟨rfl, HB.out⟩
end Go.Proofs.YtndijkndllpkgaaDoor.Pr
/- The walk of check.way by explicit steps (wip/xw.py). -/
namespace Go.Proofs.YtndijkndllpkgaaDoor.Pr
open Go.RowKit Go.Proofs.YtndijkndllpkgaaDoorW.PrintWords Go.Proofs.YtndijkndllpkgaaDoorW.PrintLast Go.Proofs.YtndijkndllpkgaaDoorW.PrintMore Go.Proofs.YtndijkndllpkgaaDoor.X
set_option linter.unusedVariables false
set_option linter.unusedSimpArgs false
def check_way.f (a0 : Int) (a1 : Int) : Option (Bool) := (check_Node.f a0).bind fun y1 => (bif y1 then ((check_Node.f a1).bind fun y2 => (bif y2 then (some (!decide (a0 = a1))) else (some false))) else (some false))
set_option maxHeartbeats 4000000 in
set_option maxRecDepth 100000 in
theorem check_way.calls (a0 : Int) (a1 : Int) (r : Bool) (w : World) (h : check_way.f a0 a1 = some r) :
    Calls Tryd.prog 47 #[.int .i64 a0, .int .i64 a1] w fun e w' => e = .returned (.bool r) ∧ Below w.heap.size w w' := by
  unfold check_way.f at h
  have HB := Aside0.mk (Below.refl w.heap.size w)
  refine calls_x (args := [.int .i64 a0, .int .i64 a1]) Tryd.func47 rfl 16 16 rfl rfl (fun ac0 F0 => ?_)
  refine wp_seq_k (fun K1 hK1 => ?_)
  refine wp_region_lit ?_
  refine sv (v := .bool false) F0 (run_guard rfl) rfl rfl (r_assign rfl ev_c) (fun ac1 F1 => ?_)
  clear F0 ac0
  refine c_end F1 ?_
  refine hK1 _ _ ?_
  refine wp_seq_k (fun K2 hK2 => ?_)
  refine wp_region_lit ?_
  refine sv (v := .int .i64 a0) F1 (run_guard rfl) rfl rfl (r_move rfl (F1.ev rfl)) (fun ac2 F2 => ?_)
  clear F1 ac1
  replace h := Option.bind_eq_some_iff.1 h
  obtain ⟨y1, hy, h⟩ := h
  refine sc F2 (run_guard rfl) rfl rfl (r_call rfl Tryd.func57 (by kernel_rfl) rfl rfl (m1 (F2.ev rfl))) ?_
  refine (check_Node.calls a0 _ _ hy).mono ?_
  rintro e w1 ⟨rfl, hE⟩
  clear hy
  replace HB := Aside0.mk (below_step HB.out hE)
  refine ⟨_, rfl, fun ac3 F3 => ?_⟩
  clear hE F2 ac2
  refine sv (v := .bool y1) F3 (run_guard rfl) rfl rfl (r_move rfl (F3.ev rfl)) (fun ac4 F4 => ?_)
  clear F3 ac3
  cases hT1 : y1 with
  | true =>
    replace h := cond_t hT1 h
    refine sv (v := .int .i64 a1) F4 (g_on F4 rfl rfl rfl (lk rfl hT1)) rfl rfl (r_move rfl (F4.ev rfl)) (fun ac5 F5 => ?_)
    clear F4 ac4
    replace h := Option.bind_eq_some_iff.1 h
    obtain ⟨y2, hy, h⟩ := h
    refine sc F5 (g_on F5 rfl rfl rfl (lk rfl hT1)) rfl rfl (r_call rfl Tryd.func57 (by kernel_rfl) rfl rfl (m1 (F5.ev rfl))) ?_
    refine (check_Node.calls a1 _ _ hy).mono ?_
    rintro e w2 ⟨rfl, hE⟩
    clear hy
    replace HB := Aside0.mk (below_step HB.out hE)
    refine ⟨_, rfl, fun ac6 F6 => ?_⟩
    clear hE F5 ac5
    refine sv (v := .bool y2) F6 (run_guard rfl) rfl rfl (r_pick_t rfl (F6.ev (lk rfl hT1)) (F6.ev rfl)) (fun ac7 F7 => ?_)
    clear F6 ac6
    refine sv (v := .bool y2) F7 (run_guard rfl) rfl rfl (r_move rfl (F7.ev rfl)) (fun ac8 F8 => ?_)
    clear F7 ac7
    cases hT2 : y2 with
    | true =>
      replace h := cond_t hT2 h
      refine sv (v := .int .i64 a0) F8 (g_on F8 rfl rfl rfl (lk rfl hT2)) rfl rfl (r_move rfl (F8.ev rfl)) (fun ac9 F9 => ?_)
      clear F8 ac8
      refine sv (v := .int .i64 a1) F9 (g_on F9 rfl rfl rfl (lk rfl hT2)) rfl rfl (r_move rfl (F9.ev rfl)) (fun ac10 F10 => ?_)
      clear F9 ac9
      refine sv (v := .bool (!decide (a0 = a1))) F10 (g_on F10 rfl rfl rfl (lk rfl hT2)) rfl rfl (r_neq rfl (F10.ev rfl) (F10.ev rfl)) (fun ac11 F11 => ?_)
      clear F10 ac10
      refine sv (v := .bool (!decide (a0 = a1))) F11 (run_guard rfl) rfl rfl (r_pick_t rfl (F11.ev (lk rfl hT2)) (F11.ev rfl)) (fun ac12 F12 => ?_)
      clear F11 ac11
      refine sv (v := .bool (!decide (a0 = a1))) F12 (run_guard rfl) rfl rfl (r_assign rfl (F12.ev rfl)) (fun ac13 F13 => ?_)
      clear F12 ac12
      refine c_end F13 ?_
      refine hK2 _ _ ?_
      refine wp_ret ?_
      (try simp only [Exit.then, Exit.inBlock])
      refine retx (fn := Tryd.f47) F13 (results1 (fn := Tryd.f47) rfl (rv_t (t := 4) (v := .bool (!decide (a0 = a1))) F13 rfl)) ?_
      cases h
      exact ⟨rfl, HB.out⟩
    | false =>
      replace h := cond_f hT2 h
      refine so F8 (g_off F8 rfl rfl rfl (lk rfl hT2)) rfl rfl (fun ac14 F14 => ?_)
      clear F8 ac8
      refine so F14 (g_off F14 rfl rfl rfl (lk rfl hT2)) rfl rfl (fun ac15 F15 => ?_)
      clear F14 ac14
      refine so F15 (g_off F15 rfl rfl rfl (lk rfl hT2)) rfl rfl (fun ac16 F16 => ?_)
      clear F15 ac15
      refine sv (v := .bool false) F16 (run_guard rfl) rfl rfl (r_pick_f rfl (F16.ev (lk rfl hT2)) ev_c) (fun ac17 F17 => ?_)
      clear F16 ac16
      refine sv (v := .bool false) F17 (run_guard rfl) rfl rfl (r_assign rfl (F17.ev rfl)) (fun ac18 F18 => ?_)
      clear F17 ac17
      refine c_end F18 ?_
      refine hK2 _ _ ?_
      refine wp_ret ?_
      (try simp only [Exit.then, Exit.inBlock])
      refine retx (fn := Tryd.f47) F18 (results1 (fn := Tryd.f47) rfl (rv_t (t := 4) (v := .bool false) F18 rfl)) ?_
      cases h
      exact ⟨rfl, HB.out⟩
  | false =>
    replace h := cond_f hT1 h
    refine so F4 (g_off F4 rfl rfl rfl (lk rfl hT1)) rfl rfl (fun ac19 F19 => ?_)
    clear F4 ac4
    refine so F19 (g_off F19 rfl rfl rfl (lk rfl hT1)) rfl rfl (fun ac20 F20 => ?_)
    clear F19 ac19
    refine sv (v := .bool false) F20 (run_guard rfl) rfl rfl (r_pick_f rfl (F20.ev (lk rfl hT1)) ev_c) (fun ac21 F21 => ?_)
    clear F20 ac20
    refine sv (v := .bool false) F21 (run_guard rfl) rfl rfl (r_move rfl (F21.ev rfl)) (fun ac22 F22 => ?_)
    clear F21 ac21
    refine so F22 (g_off F22 rfl rfl rfl rfl) rfl rfl (fun ac23 F23 => ?_)
    clear F22 ac22
    refine so F23 (g_off F23 rfl rfl rfl rfl) rfl rfl (fun ac24 F24 => ?_)
    clear F23 ac23
    refine so F24 (g_off F24 rfl rfl rfl rfl) rfl rfl (fun ac25 F25 => ?_)
    clear F24 ac24
    refine sv (v := .bool false) F25 (run_guard rfl) rfl rfl (r_pick_f rfl (F25.ev rfl) ev_c) (fun ac26 F26 => ?_)
    clear F25 ac25
    refine sv (v := .bool false) F26 (run_guard rfl) rfl rfl (r_assign rfl (F26.ev rfl)) (fun ac27 F27 => ?_)
    clear F26 ac26
    refine c_end F27 ?_
    refine hK2 _ _ ?_
    refine wp_ret ?_
    (try simp only [Exit.then, Exit.inBlock])
    refine retx (fn := Tryd.f47) F27 (results1 (fn := Tryd.f47) rfl (rv_t (t := 4) (v := .bool false) F27 rfl)) ?_
    cases h
    exact ⟨rfl, HB.out⟩
end Go.Proofs.YtndijkndllpkgaaDoor.Pr
/- The walk of check.Contact by explicit steps (wip/xw.py). -/
namespace Go.Proofs.YtndijkndllpkgaaDoor.Pr
open Go.RowKit Go.Proofs.YtndijkndllpkgaaDoorW.PrintWords Go.Proofs.YtndijkndllpkgaaDoorW.PrintLast Go.Proofs.YtndijkndllpkgaaDoorW.PrintMore Go.Proofs.YtndijkndllpkgaaDoor.X
set_option linter.unusedVariables false
set_option linter.unusedSimpArgs false
theorem check_Contact.fa34_1 (b o : Nat) (w : World) : (Instr.fieldAt 34 (.pointer (some ⟨b, o, none⟩)) 1).run Tryd.prog w = .ok (.pointer (some ⟨b, o + 1, none⟩)) w := by
  first | (go_simp; done) | (simp [Instr.fieldAt, Instr.sureAddr, Sem.run_bind, run_underlying Tryd.underlying34, fieldPlace, sizeOf, typeInfo, Addr.add]; done) | (go_simp; simp [Addr.add])
theorem check_Contact.fa34_2 (b o : Nat) (w : World) : (Instr.fieldAt 34 (.pointer (some ⟨b, o, none⟩)) 2).run Tryd.prog w = .ok (.pointer (some ⟨b, o + 2, none⟩)) w := by
  first | (go_simp; done) | (simp [Instr.fieldAt, Instr.sureAddr, Sem.run_bind, run_underlying Tryd.underlying34, fieldPlace, sizeOf, typeInfo, Addr.add]; done) | (go_simp; simp [Addr.add])
theorem check_Contact.fa34_3 (b o : Nat) (w : World) : (Instr.fieldAt 34 (.pointer (some ⟨b, o, none⟩)) 3).run Tryd.prog w = .ok (.pointer (some ⟨b, o + 3, none⟩)) w := by
  first | (go_simp; done) | (simp [Instr.fieldAt, Instr.sureAddr, Sem.run_bind, run_underlying Tryd.underlying34, fieldPlace, sizeOf, typeInfo, Addr.add]; done) | (go_simp; simp [Addr.add])
theorem check_Contact.fa34_4 (b o : Nat) (w : World) : (Instr.fieldAt 34 (.pointer (some ⟨b, o, none⟩)) 4).run Tryd.prog w = .ok (.pointer (some ⟨b, o + 4, none⟩)) w := by
  first | (go_simp; done) | (simp [Instr.fieldAt, Instr.sureAddr, Sem.run_bind, run_underlying Tryd.underlying34, fieldPlace, sizeOf, typeInfo, Addr.add]; done) | (go_simp; simp [Addr.add])
theorem check_Contact.fa34_0 (b o : Nat) (w : World) : (Instr.fieldAt 34 (.pointer (some ⟨b, o, none⟩)) 0).run Tryd.prog w = .ok (.pointer (some ⟨b, o, none⟩)) w := by
  first | (go_simp; done) | (simp [Instr.fieldAt, Instr.sureAddr, Sem.run_bind, run_underlying Tryd.underlying34, fieldPlace, sizeOf, typeInfo, Addr.add]; done) | (go_simp; simp [Addr.add])
theorem check_Contact.fa34_5 (b o : Nat) (w : World) : (Instr.fieldAt 34 (.pointer (some ⟨b, o, none⟩)) 5).run Tryd.prog w = .ok (.pointer (some ⟨b, o + 5, none⟩)) w := by
  first | (go_simp; done) | (simp [Instr.fieldAt, Instr.sureAddr, Sem.run_bind, run_underlying Tryd.underlying34, fieldPlace, sizeOf, typeInfo, Addr.add]; done) | (go_simp; simp [Addr.add])
def check_Contact.f (a0_0 : Int) (a0_1 : Int) (a0_2 : Int) (a0_3 : Int) (a0_4 : Int) (a0_5 : Int) : Option (Bool) := (check_way.f a0_1 a0_2).bind fun y1 => (bif y1 then ((check_span.f a0_3 a0_4).bind fun y2 => (bif y2 then ((num_In.f a0_0 1 1048576).bind fun y3 => (bif y3 then ((num_In.f a0_5 1 2147483647).bind fun y4 => (some y4)) else (some false))) else (some false))) else (some false))
set_option maxHeartbeats 4000000 in
set_option maxRecDepth 100000 in
theorem check_Contact.calls (a0_0 : Int) (a0_1 : Int) (a0_2 : Int) (a0_3 : Int) (a0_4 : Int) (a0_5 : Int) (r : Bool) (w : World) (h : check_Contact.f a0_0 a0_1 a0_2 a0_3 a0_4 a0_5 = some r) :
    Calls Tryd.prog 33 #[.agg #[.int .i64 a0_0, .int .i64 a0_1, .int .i64 a0_2, .int .i64 a0_3, .int .i64 a0_4, .int .i64 a0_5]] w fun e w' => e = .returned (.bool r) ∧ Below w.heap.size w w' := by
  unfold check_Contact.f at h
  have HB := Aside0.mk (Below.refl w.heap.size w)
  refine calls_x (args := [.agg #[.int .i64 a0_0, .int .i64 a0_1, .int .i64 a0_2, .int .i64 a0_3, .int .i64 a0_4, .int .i64 a0_5]]) Tryd.func33 rfl 25 25 rfl rfl (fun ac0 F0 => ?_)
  refine wp_seq_k (fun K1 hK1 => ?_)
  refine wp_region_lit ?_
  refine s_new (cs := #[.int .i64 a0_0, .int .i64 a0_1, .int .i64 a0_2, .int .i64 a0_3, .int .i64 a0_4, .int .i64 a0_5]) F0 (run_guard rfl) rfl rfl (r_box rfl (F0.ev rfl) rfl) (fun ac1 w1 b1 hb hge hlt hE F1 => ?_)
  clear F0 ac0
  have GEX1 := Aside0.mk (Nat.le_trans HB.out.size hge)
  replace HB := Aside0.mk (below_step HB.out hE)
  have X1 := Aside0.mk hb
  clear hb hge hlt hE
  refine sv (v := .bool false) F1 (run_guard rfl) rfl rfl (r_assign rfl ev_c) (fun ac2 F2 => ?_)
  clear F1 ac1
  refine c_end F2 ?_
  refine hK1 _ _ ?_
  refine wp_seq_k (fun K2 hK2 => ?_)
  refine wp_region_lit ?_
  refine sv (v := .pointer (some ⟨b1, 1, none⟩)) F2 (run_guard rfl) rfl rfl (r_fieldAddr rfl (F2.ev rfl) (check_Contact.fa34_1 _ _ _)) (fun ac3 F3 => ?_)
  clear F2 ac2
  refine sv (v := .int .i64 a0_1) F3 (run_guard rfl) rfl rfl (r_load rfl (F3.ev rfl) (l_one X1.out 1 rfl (agg_no Tryd.underlying3 rfl))) (fun ac4 F4 => ?_)
  clear F3 ac3
  refine sv (v := .pointer (some ⟨b1, 2, none⟩)) F4 (run_guard rfl) rfl rfl (r_fieldAddr rfl (F4.ev rfl) (check_Contact.fa34_2 _ _ _)) (fun ac5 F5 => ?_)
  clear F4 ac4
  refine sv (v := .int .i64 a0_2) F5 (run_guard rfl) rfl rfl (r_load rfl (F5.ev rfl) (l_one X1.out 2 rfl (agg_no Tryd.underlying3 rfl))) (fun ac6 F6 => ?_)
  clear F5 ac5
  replace h := Option.bind_eq_some_iff.1 h
  obtain ⟨y1, hy, h⟩ := h
  refine sc F6 (run_guard rfl) rfl rfl (r_call rfl Tryd.func47 (by kernel_rfl) rfl rfl (m2 (F6.ev rfl) (F6.ev rfl))) ?_
  refine (check_way.calls a0_1 a0_2 _ _ hy).mono ?_
  rintro e w2 ⟨rfl, hE⟩
  clear hy
  replace X1 := Aside0.mk (blk_below X1.out hE)
  replace HB := Aside0.mk (below_step HB.out hE)
  refine ⟨_, rfl, fun ac7 F7 => ?_⟩
  clear hE F6 ac6
  refine sv (v := .bool y1) F7 (run_guard rfl) rfl rfl (r_move rfl (F7.ev rfl)) (fun ac8 F8 => ?_)
  clear F7 ac7
  cases hT1 : y1 with
  | true =>
    replace h := cond_t hT1 h
    refine sv (v := .pointer (some ⟨b1, 3, none⟩)) F8 (g_on F8 rfl rfl rfl (lk rfl hT1)) rfl rfl (r_fieldAddr rfl (F8.ev rfl) (check_Contact.fa34_3 _ _ _)) (fun ac9 F9 => ?_)
    clear F8 ac8
    refine sv (v := .int .i64 a0_3) F9 (g_on F9 rfl rfl rfl (lk rfl hT1)) rfl rfl (r_load rfl (F9.ev rfl) (l_one X1.out 3 rfl (agg_no Tryd.underlying3 rfl))) (fun ac10 F10 => ?_)
    clear F9 ac9
    refine sv (v := .pointer (some ⟨b1, 4, none⟩)) F10 (g_on F10 rfl rfl rfl (lk rfl hT1)) rfl rfl (r_fieldAddr rfl (F10.ev rfl) (check_Contact.fa34_4 _ _ _)) (fun ac11 F11 => ?_)
    clear F10 ac10
    refine sv (v := .int .i64 a0_4) F11 (g_on F11 rfl rfl rfl (lk rfl hT1)) rfl rfl (r_load rfl (F11.ev rfl) (l_one X1.out 4 rfl (agg_no Tryd.underlying3 rfl))) (fun ac12 F12 => ?_)
    clear F11 ac11
    replace h := Option.bind_eq_some_iff.1 h
    obtain ⟨y2, hy, h⟩ := h
    refine sc F12 (g_on F12 rfl rfl rfl (lk rfl hT1)) rfl rfl (r_call rfl Tryd.func48 (by kernel_rfl) rfl rfl (m2 (F12.ev rfl) (F12.ev rfl))) ?_
    refine (check_span.calls a0_3 a0_4 _ _ hy).mono ?_
    rintro e w3 ⟨rfl, hE⟩
    clear hy
    replace X1 := Aside0.mk (blk_below X1.out hE)
    replace HB := Aside0.mk (below_step HB.out hE)
    refine ⟨_, rfl, fun ac13 F13 => ?_⟩
    clear hE F12 ac12
    refine sv (v := .bool y2) F13 (run_guard rfl) rfl rfl (r_pick_t rfl (F13.ev (lk rfl hT1)) (F13.ev rfl)) (fun ac14 F14 => ?_)
    clear F13 ac13
    refine sv (v := .bool y2) F14 (run_guard rfl) rfl rfl (r_move rfl (F14.ev rfl)) (fun ac15 F15 => ?_)
    clear F14 ac14
    cases hT2 : y2 with
    | true =>
      replace h := cond_t hT2 h
      refine sv (v := .pointer (some ⟨b1, 0, none⟩)) F15 (g_on F15 rfl rfl rfl (lk rfl hT2)) rfl rfl (r_fieldAddr rfl (F15.ev rfl) (check_Contact.fa34_0 _ _ _)) (fun ac16 F16 => ?_)
      clear F15 ac15
      refine sv (v := .int .i64 a0_0) F16 (g_on F16 rfl rfl rfl (lk rfl hT2)) rfl rfl (r_load rfl (F16.ev rfl) (l_one X1.out 0 rfl (agg_no Tryd.underlying3 rfl))) (fun ac17 F17 => ?_)
      clear F16 ac16
      replace h := Option.bind_eq_some_iff.1 h
      obtain ⟨y3, hy, h⟩ := h
      refine sc F17 (g_on F17 rfl rfl rfl (lk rfl hT2)) rfl rfl (r_call rfl Tryd.func19 (by kernel_rfl) rfl rfl (m3 (F17.ev rfl) ev_c ev_c)) ?_
      refine (num_In.calls a0_0 1 1048576 _ _ hy).mono ?_
      rintro e w4 ⟨rfl, hE⟩
      clear hy
      replace X1 := Aside0.mk (blk_below X1.out hE)
      replace HB := Aside0.mk (below_step HB.out hE)
      refine ⟨_, rfl, fun ac18 F18 => ?_⟩
      clear hE F17 ac17
      refine sv (v := .bool y3) F18 (run_guard rfl) rfl rfl (r_pick_t rfl (F18.ev (lk rfl hT2)) (F18.ev rfl)) (fun ac19 F19 => ?_)
      clear F18 ac18
      refine sv (v := .bool y3) F19 (run_guard rfl) rfl rfl (r_move rfl (F19.ev rfl)) (fun ac20 F20 => ?_)
      clear F19 ac19
      cases hT3 : y3 with
      | true =>
        replace h := cond_t hT3 h
        refine sv (v := .pointer (some ⟨b1, 5, none⟩)) F20 (g_on F20 rfl rfl rfl (lk rfl hT3)) rfl rfl (r_fieldAddr rfl (F20.ev rfl) (check_Contact.fa34_5 _ _ _)) (fun ac21 F21 => ?_)
        clear F20 ac20
        refine sv (v := .int .i64 a0_5) F21 (g_on F21 rfl rfl rfl (lk rfl hT3)) rfl rfl (r_load rfl (F21.ev rfl) (l_one X1.out 5 rfl (agg_no Tryd.underlying3 rfl))) (fun ac22 F22 => ?_)
        clear F21 ac21
        replace h := Option.bind_eq_some_iff.1 h
        obtain ⟨y4, hy, h⟩ := h
        refine sc F22 (g_on F22 rfl rfl rfl (lk rfl hT3)) rfl rfl (r_call rfl Tryd.func19 (by kernel_rfl) rfl rfl (m3 (F22.ev rfl) ev_c ev_c)) ?_
        refine (num_In.calls a0_5 1 2147483647 _ _ hy).mono ?_
        rintro e w5 ⟨rfl, hE⟩
        clear hy
        replace X1 := Aside0.mk (blk_below X1.out hE)
        replace HB := Aside0.mk (below_step HB.out hE)
        refine ⟨_, rfl, fun ac23 F23 => ?_⟩
        clear hE F22 ac22
        refine sv (v := .bool y4) F23 (run_guard rfl) rfl rfl (r_pick_t rfl (F23.ev (lk rfl hT3)) (F23.ev rfl)) (fun ac24 F24 => ?_)
        clear F23 ac23
        refine sv (v := .bool y4) F24 (run_guard rfl) rfl rfl (r_assign rfl (F24.ev rfl)) (fun ac25 F25 => ?_)
        clear F24 ac24
        refine c_end F25 ?_
        refine hK2 _ _ ?_
        refine wp_ret ?_
        (try simp only [Exit.then, Exit.inBlock])
        refine retx (fn := Tryd.f33) F25 (results1 (fn := Tryd.f33) rfl (rv_t (t := 2) (v := .bool y4) F25 rfl)) ?_
        cases h
        exact ⟨rfl, HB.out⟩
      | false =>
        replace h := cond_f hT3 h
        refine so F20 (g_off F20 rfl rfl rfl (lk rfl hT3)) rfl rfl (fun ac26 F26 => ?_)
        clear F20 ac20
        refine so F26 (g_off F26 rfl rfl rfl (lk rfl hT3)) rfl rfl (fun ac27 F27 => ?_)
        clear F26 ac26
        refine so F27 (g_off F27 rfl rfl rfl (lk rfl hT3)) rfl rfl (fun ac28 F28 => ?_)
        clear F27 ac27
        refine sv (v := .bool false) F28 (run_guard rfl) rfl rfl (r_pick_f rfl (F28.ev (lk rfl hT3)) ev_c) (fun ac29 F29 => ?_)
        clear F28 ac28
        refine sv (v := .bool false) F29 (run_guard rfl) rfl rfl (r_assign rfl (F29.ev rfl)) (fun ac30 F30 => ?_)
        clear F29 ac29
        refine c_end F30 ?_
        refine hK2 _ _ ?_
        refine wp_ret ?_
        (try simp only [Exit.then, Exit.inBlock])
        refine retx (fn := Tryd.f33) F30 (results1 (fn := Tryd.f33) rfl (rv_t (t := 2) (v := .bool false) F30 rfl)) ?_
        cases h
        exact ⟨rfl, HB.out⟩
    | false =>
      replace h := cond_f hT2 h
      refine so F15 (g_off F15 rfl rfl rfl (lk rfl hT2)) rfl rfl (fun ac31 F31 => ?_)
      clear F15 ac15
      refine so F31 (g_off F31 rfl rfl rfl (lk rfl hT2)) rfl rfl (fun ac32 F32 => ?_)
      clear F31 ac31
      refine so F32 (g_off F32 rfl rfl rfl (lk rfl hT2)) rfl rfl (fun ac33 F33 => ?_)
      clear F32 ac32
      refine sv (v := .bool false) F33 (run_guard rfl) rfl rfl (r_pick_f rfl (F33.ev (lk rfl hT2)) ev_c) (fun ac34 F34 => ?_)
      clear F33 ac33
      refine sv (v := .bool false) F34 (run_guard rfl) rfl rfl (r_move rfl (F34.ev rfl)) (fun ac35 F35 => ?_)
      clear F34 ac34
      refine so F35 (g_off F35 rfl rfl rfl rfl) rfl rfl (fun ac36 F36 => ?_)
      clear F35 ac35
      refine so F36 (g_off F36 rfl rfl rfl rfl) rfl rfl (fun ac37 F37 => ?_)
      clear F36 ac36
      refine so F37 (g_off F37 rfl rfl rfl rfl) rfl rfl (fun ac38 F38 => ?_)
      clear F37 ac37
      refine sv (v := .bool false) F38 (run_guard rfl) rfl rfl (r_pick_f rfl (F38.ev rfl) ev_c) (fun ac39 F39 => ?_)
      clear F38 ac38
      refine sv (v := .bool false) F39 (run_guard rfl) rfl rfl (r_assign rfl (F39.ev rfl)) (fun ac40 F40 => ?_)
      clear F39 ac39
      refine c_end F40 ?_
      refine hK2 _ _ ?_
      refine wp_ret ?_
      (try simp only [Exit.then, Exit.inBlock])
      refine retx (fn := Tryd.f33) F40 (results1 (fn := Tryd.f33) rfl (rv_t (t := 2) (v := .bool false) F40 rfl)) ?_
      cases h
      exact ⟨rfl, HB.out⟩
  | false =>
    replace h := cond_f hT1 h
    refine so F8 (g_off F8 rfl rfl rfl (lk rfl hT1)) rfl rfl (fun ac41 F41 => ?_)
    clear F8 ac8
    refine so F41 (g_off F41 rfl rfl rfl (lk rfl hT1)) rfl rfl (fun ac42 F42 => ?_)
    clear F41 ac41
    refine so F42 (g_off F42 rfl rfl rfl (lk rfl hT1)) rfl rfl (fun ac43 F43 => ?_)
    clear F42 ac42
    refine so F43 (g_off F43 rfl rfl rfl (lk rfl hT1)) rfl rfl (fun ac44 F44 => ?_)
    clear F43 ac43
    refine so F44 (g_off F44 rfl rfl rfl (lk rfl hT1)) rfl rfl (fun ac45 F45 => ?_)
    clear F44 ac44
    refine sv (v := .bool false) F45 (run_guard rfl) rfl rfl (r_pick_f rfl (F45.ev (lk rfl hT1)) ev_c) (fun ac46 F46 => ?_)
    clear F45 ac45
    refine sv (v := .bool false) F46 (run_guard rfl) rfl rfl (r_move rfl (F46.ev rfl)) (fun ac47 F47 => ?_)
    clear F46 ac46
    refine so F47 (g_off F47 rfl rfl rfl rfl) rfl rfl (fun ac48 F48 => ?_)
    clear F47 ac47
    refine so F48 (g_off F48 rfl rfl rfl rfl) rfl rfl (fun ac49 F49 => ?_)
    clear F48 ac48
    refine so F49 (g_off F49 rfl rfl rfl rfl) rfl rfl (fun ac50 F50 => ?_)
    clear F49 ac49
    refine sv (v := .bool false) F50 (run_guard rfl) rfl rfl (r_pick_f rfl (F50.ev rfl) ev_c) (fun ac51 F51 => ?_)
    clear F50 ac50
    refine sv (v := .bool false) F51 (run_guard rfl) rfl rfl (r_move rfl (F51.ev rfl)) (fun ac52 F52 => ?_)
    clear F51 ac51
    refine so F52 (g_off F52 rfl rfl rfl rfl) rfl rfl (fun ac53 F53 => ?_)
    clear F52 ac52
    refine so F53 (g_off F53 rfl rfl rfl rfl) rfl rfl (fun ac54 F54 => ?_)
    clear F53 ac53
    refine so F54 (g_off F54 rfl rfl rfl rfl) rfl rfl (fun ac55 F55 => ?_)
    clear F54 ac54
    refine sv (v := .bool false) F55 (run_guard rfl) rfl rfl (r_pick_f rfl (F55.ev rfl) ev_c) (fun ac56 F56 => ?_)
    clear F55 ac55
    refine sv (v := .bool false) F56 (run_guard rfl) rfl rfl (r_assign rfl (F56.ev rfl)) (fun ac57 F57 => ?_)
    clear F56 ac56
    refine c_end F57 ?_
    refine hK2 _ _ ?_
    refine wp_ret ?_
    (try simp only [Exit.then, Exit.inBlock])
    refine retx (fn := Tryd.f33) F57 (results1 (fn := Tryd.f33) rfl (rv_t (t := 2) (v := .bool false) F57 rfl)) ?_
    cases h
    exact ⟨rfl, HB.out⟩
end Go.Proofs.YtndijkndllpkgaaDoor.Pr
/- The walk of check.Range by explicit steps (wip/xw.py). -/
namespace Go.Proofs.YtndijkndllpkgaaDoor.Pr
open Go.RowKit Go.Proofs.YtndijkndllpkgaaDoorW.PrintWords Go.Proofs.YtndijkndllpkgaaDoorW.PrintLast Go.Proofs.YtndijkndllpkgaaDoorW.PrintMore Go.Proofs.YtndijkndllpkgaaDoor.X
set_option linter.unusedVariables false
set_option linter.unusedSimpArgs false
theorem check_Range.fa36_0 (b o : Nat) (w : World) : (Instr.fieldAt 36 (.pointer (some ⟨b, o, none⟩)) 0).run Tryd.prog w = .ok (.pointer (some ⟨b, o, none⟩)) w := by
  first | (go_simp; done) | (simp [Instr.fieldAt, Instr.sureAddr, Sem.run_bind, run_underlying Tryd.underlying36, fieldPlace, sizeOf, typeInfo, Addr.add]; done) | (go_simp; simp [Addr.add])
theorem check_Range.fa36_1 (b o : Nat) (w : World) : (Instr.fieldAt 36 (.pointer (some ⟨b, o, none⟩)) 1).run Tryd.prog w = .ok (.pointer (some ⟨b, o + 1, none⟩)) w := by
  first | (go_simp; done) | (simp [Instr.fieldAt, Instr.sureAddr, Sem.run_bind, run_underlying Tryd.underlying36, fieldPlace, sizeOf, typeInfo, Addr.add]; done) | (go_simp; simp [Addr.add])
theorem check_Range.fa36_2 (b o : Nat) (w : World) : (Instr.fieldAt 36 (.pointer (some ⟨b, o, none⟩)) 2).run Tryd.prog w = .ok (.pointer (some ⟨b, o + 2, none⟩)) w := by
  first | (go_simp; done) | (simp [Instr.fieldAt, Instr.sureAddr, Sem.run_bind, run_underlying Tryd.underlying36, fieldPlace, sizeOf, typeInfo, Addr.add]; done) | (go_simp; simp [Addr.add])
theorem check_Range.fa36_3 (b o : Nat) (w : World) : (Instr.fieldAt 36 (.pointer (some ⟨b, o, none⟩)) 3).run Tryd.prog w = .ok (.pointer (some ⟨b, o + 3, none⟩)) w := by
  first | (go_simp; done) | (simp [Instr.fieldAt, Instr.sureAddr, Sem.run_bind, run_underlying Tryd.underlying36, fieldPlace, sizeOf, typeInfo, Addr.add]; done) | (go_simp; simp [Addr.add])
theorem check_Range.fa36_4 (b o : Nat) (w : World) : (Instr.fieldAt 36 (.pointer (some ⟨b, o, none⟩)) 4).run Tryd.prog w = .ok (.pointer (some ⟨b, o + 4, none⟩)) w := by
  first | (go_simp; done) | (simp [Instr.fieldAt, Instr.sureAddr, Sem.run_bind, run_underlying Tryd.underlying36, fieldPlace, sizeOf, typeInfo, Addr.add]; done) | (go_simp; simp [Addr.add])
def check_Range.f (a0_0 : Int) (a0_1 : Int) (a0_2 : Int) (a0_3 : Int) (a0_4 : Int) : Option (Bool) := (check_way.f a0_0 a0_1).bind fun y1 => (bif y1 then ((check_span.f a0_2 a0_3).bind fun y2 => (bif y2 then ((num_In.f a0_4 0 2147483647).bind fun y3 => (some y3)) else (some false))) else (some false))
set_option maxHeartbeats 4000000 in
set_option maxRecDepth 100000 in
theorem check_Range.calls (a0_0 : Int) (a0_1 : Int) (a0_2 : Int) (a0_3 : Int) (a0_4 : Int) (r : Bool) (w : World) (h : check_Range.f a0_0 a0_1 a0_2 a0_3 a0_4 = some r) :
    Calls Tryd.prog 34 #[.agg #[.int .i64 a0_0, .int .i64 a0_1, .int .i64 a0_2, .int .i64 a0_3, .int .i64 a0_4]] w fun e w' => e = .returned (.bool r) ∧ Below w.heap.size w w' := by
  unfold check_Range.f at h
  have HB := Aside0.mk (Below.refl w.heap.size w)
  refine calls_x (args := [.agg #[.int .i64 a0_0, .int .i64 a0_1, .int .i64 a0_2, .int .i64 a0_3, .int .i64 a0_4]]) Tryd.func34 rfl 20 20 rfl rfl (fun ac0 F0 => ?_)
  refine wp_seq_k (fun K1 hK1 => ?_)
  refine wp_region_lit ?_
  refine s_new (cs := #[.int .i64 a0_0, .int .i64 a0_1, .int .i64 a0_2, .int .i64 a0_3, .int .i64 a0_4]) F0 (run_guard rfl) rfl rfl (r_box rfl (F0.ev rfl) rfl) (fun ac1 w1 b1 hb hge hlt hE F1 => ?_)
  clear F0 ac0
  have GEX1 := Aside0.mk (Nat.le_trans HB.out.size hge)
  replace HB := Aside0.mk (below_step HB.out hE)
  have X1 := Aside0.mk hb
  clear hb hge hlt hE
  refine sv (v := .bool false) F1 (run_guard rfl) rfl rfl (r_assign rfl ev_c) (fun ac2 F2 => ?_)
  clear F1 ac1
  refine c_end F2 ?_
  refine hK1 _ _ ?_
  refine wp_seq_k (fun K2 hK2 => ?_)
  refine wp_region_lit ?_
  refine sv (v := .pointer (some ⟨b1, 0, none⟩)) F2 (run_guard rfl) rfl rfl (r_fieldAddr rfl (F2.ev rfl) (check_Range.fa36_0 _ _ _)) (fun ac3 F3 => ?_)
  clear F2 ac2
  refine sv (v := .int .i64 a0_0) F3 (run_guard rfl) rfl rfl (r_load rfl (F3.ev rfl) (l_one X1.out 0 rfl (agg_no Tryd.underlying3 rfl))) (fun ac4 F4 => ?_)
  clear F3 ac3
  refine sv (v := .pointer (some ⟨b1, 1, none⟩)) F4 (run_guard rfl) rfl rfl (r_fieldAddr rfl (F4.ev rfl) (check_Range.fa36_1 _ _ _)) (fun ac5 F5 => ?_)
  clear F4 ac4
  refine sv (v := .int .i64 a0_1) F5 (run_guard rfl) rfl rfl (r_load rfl (F5.ev rfl) (l_one X1.out 1 rfl (agg_no Tryd.underlying3 rfl))) (fun ac6 F6 => ?_)
  clear F5 ac5
  replace h := Option.bind_eq_some_iff.1 h
  obtain ⟨y1, hy, h⟩ := h
  refine sc F6 (run_guard rfl) rfl rfl (r_call rfl Tryd.func47 (by kernel_rfl) rfl rfl (m2 (F6.ev rfl) (F6.ev rfl))) ?_
  refine (check_way.calls a0_0 a0_1 _ _ hy).mono ?_
  rintro e w2 ⟨rfl, hE⟩
  clear hy
  replace X1 := Aside0.mk (blk_below X1.out hE)
  replace HB := Aside0.mk (below_step HB.out hE)
  refine ⟨_, rfl, fun ac7 F7 => ?_⟩
  clear hE F6 ac6
  refine sv (v := .bool y1) F7 (run_guard rfl) rfl rfl (r_move rfl (F7.ev rfl)) (fun ac8 F8 => ?_)
  clear F7 ac7
  cases hT1 : y1 with
  | true =>
    replace h := cond_t hT1 h
    refine sv (v := .pointer (some ⟨b1, 2, none⟩)) F8 (g_on F8 rfl rfl rfl (lk rfl hT1)) rfl rfl (r_fieldAddr rfl (F8.ev rfl) (check_Range.fa36_2 _ _ _)) (fun ac9 F9 => ?_)
    clear F8 ac8
    refine sv (v := .int .i64 a0_2) F9 (g_on F9 rfl rfl rfl (lk rfl hT1)) rfl rfl (r_load rfl (F9.ev rfl) (l_one X1.out 2 rfl (agg_no Tryd.underlying3 rfl))) (fun ac10 F10 => ?_)
    clear F9 ac9
    refine sv (v := .pointer (some ⟨b1, 3, none⟩)) F10 (g_on F10 rfl rfl rfl (lk rfl hT1)) rfl rfl (r_fieldAddr rfl (F10.ev rfl) (check_Range.fa36_3 _ _ _)) (fun ac11 F11 => ?_)
    clear F10 ac10
    refine sv (v := .int .i64 a0_3) F11 (g_on F11 rfl rfl rfl (lk rfl hT1)) rfl rfl (r_load rfl (F11.ev rfl) (l_one X1.out 3 rfl (agg_no Tryd.underlying3 rfl))) (fun ac12 F12 => ?_)
    clear F11 ac11
    replace h := Option.bind_eq_some_iff.1 h
    obtain ⟨y2, hy, h⟩ := h
    refine sc F12 (g_on F12 rfl rfl rfl (lk rfl hT1)) rfl rfl (r_call rfl Tryd.func48 (by kernel_rfl) rfl rfl (m2 (F12.ev rfl) (F12.ev rfl))) ?_
    refine (check_span.calls a0_2 a0_3 _ _ hy).mono ?_
    rintro e w3 ⟨rfl, hE⟩
    clear hy
    replace X1 := Aside0.mk (blk_below X1.out hE)
    replace HB := Aside0.mk (below_step HB.out hE)
    refine ⟨_, rfl, fun ac13 F13 => ?_⟩
    clear hE F12 ac12
    refine sv (v := .bool y2) F13 (run_guard rfl) rfl rfl (r_pick_t rfl (F13.ev (lk rfl hT1)) (F13.ev rfl)) (fun ac14 F14 => ?_)
    clear F13 ac13
    refine sv (v := .bool y2) F14 (run_guard rfl) rfl rfl (r_move rfl (F14.ev rfl)) (fun ac15 F15 => ?_)
    clear F14 ac14
    cases hT2 : y2 with
    | true =>
      replace h := cond_t hT2 h
      refine sv (v := .pointer (some ⟨b1, 4, none⟩)) F15 (g_on F15 rfl rfl rfl (lk rfl hT2)) rfl rfl (r_fieldAddr rfl (F15.ev rfl) (check_Range.fa36_4 _ _ _)) (fun ac16 F16 => ?_)
      clear F15 ac15
      refine sv (v := .int .i64 a0_4) F16 (g_on F16 rfl rfl rfl (lk rfl hT2)) rfl rfl (r_load rfl (F16.ev rfl) (l_one X1.out 4 rfl (agg_no Tryd.underlying3 rfl))) (fun ac17 F17 => ?_)
      clear F16 ac16
      replace h := Option.bind_eq_some_iff.1 h
      obtain ⟨y3, hy, h⟩ := h
      refine sc F17 (g_on F17 rfl rfl rfl (lk rfl hT2)) rfl rfl (r_call rfl Tryd.func19 (by kernel_rfl) rfl rfl (m3 (F17.ev rfl) ev_c ev_c)) ?_
      refine (num_In.calls a0_4 0 2147483647 _ _ hy).mono ?_
      rintro e w4 ⟨rfl, hE⟩
      clear hy
      replace X1 := Aside0.mk (blk_below X1.out hE)
      replace HB := Aside0.mk (below_step HB.out hE)
      refine ⟨_, rfl, fun ac18 F18 => ?_⟩
      clear hE F17 ac17
      refine sv (v := .bool y3) F18 (run_guard rfl) rfl rfl (r_pick_t rfl (F18.ev (lk rfl hT2)) (F18.ev rfl)) (fun ac19 F19 => ?_)
      clear F18 ac18
      refine sv (v := .bool y3) F19 (run_guard rfl) rfl rfl (r_assign rfl (F19.ev rfl)) (fun ac20 F20 => ?_)
      clear F19 ac19
      refine c_end F20 ?_
      refine hK2 _ _ ?_
      refine wp_ret ?_
      (try simp only [Exit.then, Exit.inBlock])
      refine retx (fn := Tryd.f34) F20 (results1 (fn := Tryd.f34) rfl (rv_t (t := 2) (v := .bool y3) F20 rfl)) ?_
      cases h
      exact ⟨rfl, HB.out⟩
    | false =>
      replace h := cond_f hT2 h
      refine so F15 (g_off F15 rfl rfl rfl (lk rfl hT2)) rfl rfl (fun ac21 F21 => ?_)
      clear F15 ac15
      refine so F21 (g_off F21 rfl rfl rfl (lk rfl hT2)) rfl rfl (fun ac22 F22 => ?_)
      clear F21 ac21
      refine so F22 (g_off F22 rfl rfl rfl (lk rfl hT2)) rfl rfl (fun ac23 F23 => ?_)
      clear F22 ac22
      refine sv (v := .bool false) F23 (run_guard rfl) rfl rfl (r_pick_f rfl (F23.ev (lk rfl hT2)) ev_c) (fun ac24 F24 => ?_)
      clear F23 ac23
      refine sv (v := .bool false) F24 (run_guard rfl) rfl rfl (r_assign rfl (F24.ev rfl)) (fun ac25 F25 => ?_)
      clear F24 ac24
      refine c_end F25 ?_
      refine hK2 _ _ ?_
      refine wp_ret ?_
      (try simp only [Exit.then, Exit.inBlock])
      refine retx (fn := Tryd.f34) F25 (results1 (fn := Tryd.f34) rfl (rv_t (t := 2) (v := .bool false) F25 rfl)) ?_
      cases h
      exact ⟨rfl, HB.out⟩
  | false =>
    replace h := cond_f hT1 h
    refine so F8 (g_off F8 rfl rfl rfl (lk rfl hT1)) rfl rfl (fun ac26 F26 => ?_)
    clear F8 ac8
    refine so F26 (g_off F26 rfl rfl rfl (lk rfl hT1)) rfl rfl (fun ac27 F27 => ?_)
    clear F26 ac26
    refine so F27 (g_off F27 rfl rfl rfl (lk rfl hT1)) rfl rfl (fun ac28 F28 => ?_)
    clear F27 ac27
    refine so F28 (g_off F28 rfl rfl rfl (lk rfl hT1)) rfl rfl (fun ac29 F29 => ?_)
    clear F28 ac28
    refine so F29 (g_off F29 rfl rfl rfl (lk rfl hT1)) rfl rfl (fun ac30 F30 => ?_)
    clear F29 ac29
    refine sv (v := .bool false) F30 (run_guard rfl) rfl rfl (r_pick_f rfl (F30.ev (lk rfl hT1)) ev_c) (fun ac31 F31 => ?_)
    clear F30 ac30
    refine sv (v := .bool false) F31 (run_guard rfl) rfl rfl (r_move rfl (F31.ev rfl)) (fun ac32 F32 => ?_)
    clear F31 ac31
    refine so F32 (g_off F32 rfl rfl rfl rfl) rfl rfl (fun ac33 F33 => ?_)
    clear F32 ac32
    refine so F33 (g_off F33 rfl rfl rfl rfl) rfl rfl (fun ac34 F34 => ?_)
    clear F33 ac33
    refine so F34 (g_off F34 rfl rfl rfl rfl) rfl rfl (fun ac35 F35 => ?_)
    clear F34 ac34
    refine sv (v := .bool false) F35 (run_guard rfl) rfl rfl (r_pick_f rfl (F35.ev rfl) ev_c) (fun ac36 F36 => ?_)
    clear F35 ac35
    refine sv (v := .bool false) F36 (run_guard rfl) rfl rfl (r_assign rfl (F36.ev rfl)) (fun ac37 F37 => ?_)
    clear F36 ac36
    refine c_end F37 ?_
    refine hK2 _ _ ?_
    refine wp_ret ?_
    (try simp only [Exit.then, Exit.inBlock])
    refine retx (fn := Tryd.f34) F37 (results1 (fn := Tryd.f34) rfl (rv_t (t := 2) (v := .bool false) F37 rfl)) ?_
    cases h
    exact ⟨rfl, HB.out⟩
end Go.Proofs.YtndijkndllpkgaaDoor.Pr
/- direct.may: the walk (printed by gen_may.py of this session). -/
namespace Go.Proofs.YtndijkndllpkgaaDoor.Pr
open Go.RowKit Go.Proofs.YtndijkndllpkgaaDoorW.PrintWords Go.Proofs.YtndijkndllpkgaaDoorW.PrintLast Go.Proofs.YtndijkndllpkgaaDoorW.PrintMore Go.Proofs.YtndijkndllpkgaaDoor.Frm
attribute [local go_sem] max2_int min2_int
set_option linter.unusedVariables false
set_option linter.unusedSimpArgs false

def direct_may.f (a0_0 : Int) (a0_1 : Int) (a0_2 : Int) (a0_3 : Int) (a0_4 : Int) (a0_5 : Int) (a0_6 : Int) (a0_7 : Int) (a0_8 : Int) (a0_9 : Int) (a0_10 : Int) (a0_11 : Int) (a0_12 : Int) : Option Bool :=
  if a0_1 = 1 then (if a0_0 = 1 then check_Contact.f a0_2 a0_3 a0_4 a0_5 a0_6 a0_7 else if a0_0 = 3 then check_Contact.f a0_2 1 2 0 1 a0_7 else check_Contact.f a0_2 1 2 0 1 (max a0_7 1))
  else (if a0_0 = 1 then check_Range.f a0_8 a0_9 a0_10 a0_11 a0_12 else check_Range.f a0_8 a0_9 a0_10 2147483647 a0_12)
def dmay.T1 : Bool × List (List Nat × List Nat) := (true, [([], []), ([0], [0]), ([], []), ([2], [2]), ([], []), ([], []), ([4, 1, 0, 1, 4, 5], [1, 4]), ([5, 3, 6, 0, 1, 2, 3, 4, 5, 6], [3, 5])])
def dmay.B1 : List Nat := [0, 1, 0, 4, 0, 0, 51, 127]
theorem dmay.tab1 : rtab .any (opsOf Tryd.f41 1) = dmay.T1 := by kernel_rfl
theorem dmay.bits1 : waitsOk dmay.T1.2 dmay.B1 = true := by kernel_rfl
set_option maxHeartbeats 8000000 in
theorem direct_may.calls (a0_0 : Int) (a0_1 : Int) (a0_2 : Int) (a0_3 : Int) (a0_4 : Int) (a0_5 : Int) (a0_6 : Int) (a0_7 : Int) (a0_8 : Int) (a0_9 : Int) (a0_10 : Int) (a0_11 : Int) (a0_12 : Int) (r : Bool) (w : World) (h : direct_may.f a0_0 a0_1 a0_2 a0_3 a0_4 a0_5 a0_6 a0_7 a0_8 a0_9 a0_10 a0_11 a0_12 = some r) :
    Calls Tryd.prog 41 #[.agg #[.int .i64 a0_0, .int .i64 a0_1, .int .i64 a0_2, .int .i64 a0_3, .int .i64 a0_4, .int .i64 a0_5, .int .i64 a0_6, .int .i64 a0_7, .int .i64 a0_8, .int .i64 a0_9, .int .i64 a0_10, .int .i64 a0_11, .int .i64 a0_12]] w fun e w' => e = .returned (.bool r) ∧ Below w.heap.size w w' := by
  unfold direct_may.f at h
  have HH := Lib.hid h
  clear h
  go_enter Tryd.func41, Tryd.ntmps41
  go_wp2_with fail
  refine start_ (n := 8) (S := fun w' => True) (ds := []) #[false, false, false, false, false, false, false, false] (by kernel_rfl) rfl rfl trivial (fun hHeld => ?_)
  refine with_tabW dmay.tab1 dmay.bits1 (fun HT_ HW_ => ?_)
  have HD : (w.alloc (Obj.cells #[.int .i64 a0_0, .int .i64 a0_1, .int .i64 a0_2, .int .i64 a0_3, .int .i64 a0_4, .int .i64 a0_5, .int .i64 a0_6, .int .i64 a0_7, .int .i64 a0_8, .int .i64 a0_9, .int .i64 a0_10, .int .i64 a0_11, .int .i64 a0_12] 38)).drew.heap[w.heap.size]? = some (.cells #[.int .i64 a0_0, .int .i64 a0_1, .int .i64 a0_2, .int .i64 a0_3, .int .i64 a0_4, .int .i64 a0_5, .int .i64 a0_6, .int .i64 a0_7, .int .i64 a0_8, .int .i64 a0_9, .int .i64 a0_10, .int .i64 a0_11, .int .i64 a0_12] 38 (0, 0)) := Array.getElem?_push_size
  have HB : Below w.heap.size w (w.alloc (Obj.cells #[.int .i64 a0_0, .int .i64 a0_1, .int .i64 a0_2, .int .i64 a0_3, .int .i64 a0_4, .int .i64 a0_5, .int .i64 a0_6, .int .i64 a0_7, .int .i64 a0_8, .int .i64 a0_9, .int .i64 a0_10, .int .i64 a0_11, .int .i64 a0_12] 38)).drew := ((Below.refl _ _).alloc (Nat.le_refl _) _).drew
  have HS : w.heap.size + 1 ≤ (w.alloc (Obj.cells #[.int .i64 a0_0, .int .i64 a0_1, .int .i64 a0_2, .int .i64 a0_3, .int .i64 a0_4, .int .i64 a0_5, .int .i64 a0_6, .int .i64 a0_7, .int .i64 a0_8, .int .i64 a0_9, .int .i64 a0_10, .int .i64 a0_11, .int .i64 a0_12] 38)).drew.heap.size := by simp
  generalize (w.alloc (Obj.cells #[.int .i64 a0_0, .int .i64 a0_1, .int .i64 a0_2, .int .i64 a0_3, .int .i64 a0_4, .int .i64 a0_5, .int .i64 a0_6, .int .i64 a0_7, .int .i64 a0_8, .int .i64 a0_9, .int .i64 a0_10, .int .i64 a0_11, .int .i64 a0_12] 38)).drew = W0 at HD HB HS ⊢
  clear hHeld
  refine pure_ (i := 0) (N := some 5) (v := ?_) (a' := ?_) #[true, false, false, false, false, false, false, false] rfl rfl (any_of HT_.out (by kernel_rfl)) (fun _ _ _ h => h) (Or.inl ⟨by rfl, ?_⟩) ?_ ?_
  rotate_left
  · intro w'
    go_simp
    with_reducible rfl
  rotate_left
  · simp only [Act.put, List.setIfInBounds_toArray, List.set_cons_zero, List.set_cons_succ, i64_w, i32_w]
    rfl
  refine pure_ (i := 2) (N := some 7) (v := ?_) (a' := ?_) #[true, false, true, false, false, false, false, false] rfl rfl (any_of HT_.out (by kernel_rfl)) (fun _ _ _ h => h) (Or.inl ⟨by rfl, ?_⟩) ?_ ?_
  rotate_left
  · intro w'
    go_simp
    with_reducible rfl
  rotate_left
  · simp only [Act.put, List.setIfInBounds_toArray, List.set_cons_zero, List.set_cons_succ, i64_w, i32_w]
    rfl
  refine inv_at [1, 3, 4, 5, 6, 7] (fun a0_ b a w' => ∃ bc : Nat, ∃ br : Nat, a = putSel a0_ b [(1, 6, .agg #[.int .i64 a0_2, .int .i64 a0_3, .int .i64 a0_4, .int .i64 a0_5, .int .i64 a0_6, .int .i64 a0_7]), (3, 8, .agg #[.int .i64 a0_8, .int .i64 a0_9, .int .i64 a0_10, .int .i64 a0_11, .int .i64 a0_12]), (4, 3, .pointer (some ⟨bc, 0, none⟩)), (5, 4, .pointer (some ⟨br, 0, none⟩))] ∧ (w'.heap[w.heap.size]? = some (.cells #[.int .i64 a0_0, .int .i64 a0_1, .int .i64 a0_2, .int .i64 a0_3, .int .i64 a0_4, .int .i64 a0_5, .int .i64 a0_6, .int .i64 a0_7, .int .i64 a0_8, .int .i64 a0_9, .int .i64 a0_10, .int .i64 a0_11, .int .i64 a0_12] 38 (0, 0))) ∧ (Below w.heap.size w w') ∧ (w.heap.size + 1 ≤ w'.heap.size) ∧ (b 4 = true → b 6 = false → w'.heap[bc]? = some (.cells #[.int .i64 0, .int .i64 0, .int .i64 0, .int .i64 0, .int .i64 0, .int .i64 0] 34 (0, 0)) ∧ w.heap.size + 1 ≤ bc) ∧ (b 6 = true → w'.heap[bc]? = some (.cells #[.int .i64 a0_2, .int .i64 a0_3, .int .i64 a0_4, .int .i64 a0_5, .int .i64 a0_6, .int .i64 a0_7] 34 (0, 0)) ∧ w.heap.size + 1 ≤ bc) ∧ (b 5 = true → b 7 = false → w'.heap[br]? = some (.cells #[.int .i64 0, .int .i64 0, .int .i64 0, .int .i64 0, .int .i64 0] 36 (0, 0)) ∧ w.heap.size + 1 ≤ br) ∧ (b 7 = true → w'.heap[br]? = some (.cells #[.int .i64 a0_8, .int .i64 a0_9, .int .i64 a0_10, .int .i64 a0_11, .int .i64 a0_12] 36 (0, 0)) ∧ w.heap.size + 1 ≤ br)) HT_.out HW_.out (by kernel_rfl) (by kernel_rfl) ?_ ?_ ?_
  · exact ⟨0, 0, by simp only [putSel, Bool.false_eq_true, if_false], HD, HB, HS, (fun h => by cases h), (fun h => by cases h), (fun h => by cases h), (fun h => by cases h)⟩
  · skip
    refine steps_cons ?_ ?_
    · rintro b a w' ⟨bc, br, ha, FD, FB, FS, FP, FC, FQ, FR⟩ hb_ hon hoff
      refine ⟨_, rfl, fun K hK => ?_⟩
      have e5 : a.tmps[5]? = some (.pointer (some ⟨w.heap.size, 2, none⟩)) := by rw [ha]; exact (putSel_off rfl).trans rfl
      have FD' := FD
      have FB' := FB
      have FS' := FS
      have hl := run_loadAt_mid (P := Tryd.prog) w' w.heap.size 2 34 [.int .i64 a0_2, .int .i64 a0_3, .int .i64 a0_4, .int .i64 a0_5, .int .i64 a0_6, .int .i64 a0_7] _ (range_part FD 2 _ rfl) Tryd.underlying34 rfl (by kernel_rfl)
      refine value_ (w1 := w') (v := .agg #[.int .i64 a0_2, .int .i64 a0_3, .int .i64 a0_4, .int .i64 a0_5, .int .i64 a0_6, .int .i64 a0_7]) (by rfl) rfl (load_run rfl e5 hl) ?_
      refine hK.out _ _ ⟨bc, br, (by rw [ha]; exact putSel_upk 0 hb_ rfl rfl rfl), FD, FB, FS, (fun h0 h1 => FP (by rwa [up_ne (by decide)] at h0) (by rwa [up_ne (by decide)] at h1)), (fun h0 => by rw [up_ne (by decide), hoff 6 (by kernel_rfl)] at h0; cases h0), (fun h0 h1 => FQ (by rwa [up_ne (by decide)] at h0) (by rwa [up_ne (by decide)] at h1)), (fun h0 => by rw [up_ne (by decide), hoff 7 (by kernel_rfl)] at h0; cases h0)⟩
    refine steps_cons ?_ ?_
    · rintro b a w' ⟨bc, br, ha, FD, FB, FS, FP, FC, FQ, FR⟩ hb_ hon hoff
      refine ⟨_, rfl, fun K hK => ?_⟩
      have e7 : a.tmps[7]? = some (.pointer (some ⟨w.heap.size, 8, none⟩)) := by rw [ha]; exact (putSel_off rfl).trans rfl
      have FD' := FD
      have FB' := FB
      have FS' := FS
      have hl := run_loadAt_mid (P := Tryd.prog) w' w.heap.size 8 36 [.int .i64 a0_8, .int .i64 a0_9, .int .i64 a0_10, .int .i64 a0_11, .int .i64 a0_12] _ (range_part FD 8 _ rfl) Tryd.underlying36 rfl (by kernel_rfl)
      refine value_ (w1 := w') (v := .agg #[.int .i64 a0_8, .int .i64 a0_9, .int .i64 a0_10, .int .i64 a0_11, .int .i64 a0_12]) (by rfl) rfl (load_run rfl e7 hl) ?_
      refine hK.out _ _ ⟨bc, br, (by rw [ha]; exact putSel_upk 1 hb_ rfl rfl rfl), FD, FB, FS, (fun h0 h1 => FP (by rwa [up_ne (by decide)] at h0) (by rwa [up_ne (by decide)] at h1)), (fun h0 => FC (by rwa [up_ne (by decide)] at h0)), (fun h0 h1 => FQ (by rwa [up_ne (by decide)] at h0) (by rwa [up_ne (by decide)] at h1)), (fun h0 => by rw [up_ne (by decide), hoff 7 (by kernel_rfl)] at h0; cases h0)⟩
    refine steps_cons ?_ ?_
    · rintro b a w' ⟨bc, br, ha, FD, FB, FS, FP, FC, FQ, FR⟩ hb_ hon hoff
      refine ⟨_, rfl, fun K hK => ?_⟩
      have FD' := FD
      have FB' := FB
      have FS' := FS
      refine value_ (w1 := w'.alloc (.cells #[.int .i64 0, .int .i64 0, .int .i64 0, .int .i64 0, .int .i64 0, .int .i64 0] 34)) (v := .pointer (some ⟨w'.heap.size, 0, none⟩)) (by rfl) rfl ?_ ?_
      · clear ha hK hon hoff
        go_simp
        (try rfl)
      refine hK.out _ _ ⟨w'.heap.size, br, (by rw [ha]; exact putSel_upk 2 hb_ rfl rfl rfl), ?_, ?_, ?_, (fun h0 h1 => ?_), (fun h0 => by rw [up_ne (by decide), hoff 6 (by kernel_rfl)] at h0; cases h0), (fun h0 h1 => ?_), (fun h0 => by rw [up_ne (by decide), hoff 7 (by kernel_rfl)] at h0; cases h0)⟩
      · exact blk_alloc FD _
      · exact FB.alloc (by omega) _
      · simp; omega
      · rw [up_ne (by decide)] at h1
        exact ⟨blk_new _ _, FS⟩
      · rw [up_ne (by decide)] at h0
        rw [up_ne (by decide)] at h1
        have FQ' := FQ h0 h1
        exact ⟨blk_alloc FQ'.1 _, FQ'.2⟩
    refine steps_cons ?_ ?_
    · rintro b a w' ⟨bc, br, ha, FD, FB, FS, FP, FC, FQ, FR⟩ hb_ hon hoff
      refine ⟨_, rfl, fun K hK => ?_⟩
      have FD' := FD
      have FB' := FB
      have FS' := FS
      refine value_ (w1 := w'.alloc (.cells #[.int .i64 0, .int .i64 0, .int .i64 0, .int .i64 0, .int .i64 0] 36)) (v := .pointer (some ⟨w'.heap.size, 0, none⟩)) (by rfl) rfl ?_ ?_
      · clear ha hK hon hoff
        go_simp
        (try rfl)
      refine hK.out _ _ ⟨bc, w'.heap.size, (by rw [ha]; exact putSel_upk 3 hb_ rfl rfl rfl), ?_, ?_, ?_, (fun h0 h1 => ?_), (fun h0 => by rw [up_ne (by decide), hoff 6 (by kernel_rfl)] at h0; cases h0), (fun h0 h1 => ?_), (fun h0 => by rw [up_ne (by decide), hoff 7 (by kernel_rfl)] at h0; cases h0)⟩
      · exact blk_alloc FD _
      · exact FB.alloc (by omega) _
      · simp; omega
      · rw [up_ne (by decide)] at h0
        rw [up_ne (by decide)] at h1
        have FP' := FP h0 h1
        exact ⟨blk_alloc FP'.1 _, FP'.2⟩
      · rw [up_ne (by decide)] at h1
        exact ⟨blk_new _ _, FS⟩
    refine steps_cons ?_ ?_
    · rintro b a w' ⟨bc, br, ha, FD, FB, FS, FP, FC, FQ, FR⟩ hb_ hon hoff
      refine ⟨_, rfl, fun K hK => ?_⟩
      have e3 : a.tmps[3]? = some (.pointer (some ⟨bc, 0, none⟩)) := by rw [ha]; exact putSel_on (e := (4, 3, .pointer (some ⟨bc, 0, none⟩))) 2 rfl rfl (hon 4 (by kernel_rfl)) rfl
      have e6 : a.tmps[6]? = some (.agg #[.int .i64 a0_2, .int .i64 a0_3, .int .i64 a0_4, .int .i64 a0_5, .int .i64 a0_6, .int .i64 a0_7]) := by rw [ha]; exact putSel_on (e := (1, 6, .agg #[.int .i64 a0_2, .int .i64 a0_3, .int .i64 a0_4, .int .i64 a0_5, .int .i64 a0_6, .int .i64 a0_7])) 0 rfl rfl (hon 1 (by kernel_rfl)) rfl
      have FD' := FD
      have FB' := FB
      have FS' := FS
      have FP' := FP (hon 4 (by kernel_rfl)) hb_
      have FQ' := FQ (hon 5 (by kernel_rfl)) (hoff 7 (by kernel_rfl))
      obtain ⟨s1, s2⟩ := store_all (P := Tryd.prog) (ty := 34) (cells := #[.int .i64 a0_2, .int .i64 a0_3, .int .i64 a0_4, .int .i64 a0_5, .int .i64 a0_6, .int .i64 a0_7]) FP'.1 rfl (by kernel_rfl) (by simp [Value.oneCell'])
      refine skip_ (by rfl) rfl (store_run rfl e3 e6 s1) ?_
      refine hK.out _ _ ⟨bc, br, (by rw [ha]; exact putSel_none (v := undef) rfl), ?_, ?_, ?_, (fun h0 h1 => by rw [up_self] at h1; cases h1), (fun h0 => ?_), (fun h0 h1 => ?_), (fun h0 => by rw [up_ne (by decide), hoff 7 (by kernel_rfl)] at h0; cases h0)⟩
      · exact (heap_setCells_other (blk_ne FD FP'.1 (by decide)) _ _ _).trans FD
      · exact FB.trans (below_setCells (by have := FP'.2; omega) _ _ _)
      · exact Nat.le_trans FS (below_setCells (Nat.le_refl _) _ _ _).size
      · exact ⟨s2, FP'.2⟩
      · rw [up_ne (by decide)] at h0
        rw [up_ne (by decide)] at h1
        have FQ' := FQ h0 h1
        exact ⟨(heap_setCells_other (blk_ne FQ'.1 FP'.1 (by decide)) _ _ _).trans FQ'.1, FQ'.2⟩
    refine steps_cons ?_ ?_
    · rintro b a w' ⟨bc, br, ha, FD, FB, FS, FP, FC, FQ, FR⟩ hb_ hon hoff
      refine ⟨_, rfl, fun K hK => ?_⟩
      have e4 : a.tmps[4]? = some (.pointer (some ⟨br, 0, none⟩)) := by rw [ha]; exact putSel_on (e := (5, 4, .pointer (some ⟨br, 0, none⟩))) 3 rfl rfl (hon 5 (by kernel_rfl)) rfl
      have e8 : a.tmps[8]? = some (.agg #[.int .i64 a0_8, .int .i64 a0_9, .int .i64 a0_10, .int .i64 a0_11, .int .i64 a0_12]) := by rw [ha]; exact putSel_on (e := (3, 8, .agg #[.int .i64 a0_8, .int .i64 a0_9, .int .i64 a0_10, .int .i64 a0_11, .int .i64 a0_12])) 1 rfl rfl (hon 3 (by kernel_rfl)) rfl
      have FD' := FD
      have FB' := FB
      have FS' := FS
      have FC' := FC (hon 6 (by kernel_rfl))
      have FQ' := FQ (hon 5 (by kernel_rfl)) hb_
      obtain ⟨s1, s2⟩ := store_all (P := Tryd.prog) (ty := 36) (cells := #[.int .i64 a0_8, .int .i64 a0_9, .int .i64 a0_10, .int .i64 a0_11, .int .i64 a0_12]) FQ'.1 rfl (by kernel_rfl) (by simp [Value.oneCell'])
      refine skip_ (by rfl) rfl (store_run rfl e4 e8 s1) ?_
      refine hK.out _ _ ⟨bc, br, (by rw [ha]; exact putSel_none (v := undef) rfl), ?_, ?_, ?_, (fun h0 h1 => by rw [up_ne (by decide), hon 6 (by kernel_rfl)] at h1; cases h1), (fun h0 => ?_), (fun h0 h1 => by rw [up_self] at h1; cases h1), (fun h0 => ?_)⟩
      · exact (heap_setCells_other (blk_ne FD FQ'.1 (by decide)) _ _ _).trans FD
      · exact FB.trans (below_setCells (by have := FQ'.2; omega) _ _ _)
      · exact Nat.le_trans FS (below_setCells (Nat.le_refl _) _ _ _).size
      · rw [up_ne (by decide)] at h0
        have FC' := FC h0
        exact ⟨(heap_setCells_other (blk_ne FC'.1 FQ'.1 (by decide)) _ _ _).trans FC'.1, FC'.2⟩
      · exact ⟨s2, FQ'.2⟩
    exact steps_nil
  · rintro b a w' hall ⟨bc, br, ha, FD, FB, FS, FP, FC, FQ, FR⟩
    have hb1 := hall 1 (by kernel_rfl)
    have hb3 := hall 3 (by kernel_rfl)
    have hb4 := hall 4 (by kernel_rfl)
    have hb5 := hall 5 (by kernel_rfl)
    have hb6 := hall 6 (by kernel_rfl)
    have hb7 := hall 7 (by kernel_rfl)
    subst ha
    simp only [putSel, hb1, hb3, hb4, hb5, hb6, hb7, if_true, Act.put, List.setIfInBounds_toArray, List.set_cons_zero, List.set_cons_succ]
    clear FP
    replace FC := FC hb6
    clear FQ
    replace FR := FR hb7
    clear hall HT_ HW_ hb1 hb3 hb4 hb5 hb6 hb7
    obtain ⟨FC, FC2⟩ := FC
    obtain ⟨FR, FR2⟩ := FR
    have hD0 : w'.cell? ⟨w.heap.size, 0, none⟩ = some (.int .i64 a0_0) := blk_cell FD 0
    have hD1 : w'.cell? ⟨w.heap.size, 1, none⟩ = some (.int .i64 a0_1) := blk_cell FD 1
    have HX := Lib.hid (And.intro FD (And.intro FB (And.intro FC (And.intro FR (And.intro FC2 FR2)))))
    clear FD FB FC FR FC2 FR2 FS
    by_cases ho : a0_0 = 1
    · subst ho
      have HO : Hid ((if a0_1 = 1 then check_Contact.f a0_2 a0_3 a0_4 a0_5 a0_6 a0_7 else check_Range.f a0_8 a0_9 a0_10 a0_11 a0_12) = some r) := Lib.hid (by have := HH.out; simpa using this)
      clear HH
      by_cases hk : a0_1 = 1
      · subst hk
        go_wp2_with (first
          | ((with_reducible show wpList _ _ _ (Oper.mk _ (Op.load 34 _) _ _ _ _ :: _) _ _); go_must (refine wpList_load_mid rfl 34 (.tmp 3) rfl bc 0 rfl [.int .i64 a0_2, .int .i64 a0_3, .int .i64 a0_4, .int .i64 a0_5, .int .i64 a0_6, .int .i64 a0_7] _ (range_part HX.out.2.2.1 0 _ rfl) Tryd.underlying34 rfl (by kernel_rfl) ?_))
          | (go_at_call 33; refine (check_Contact.calls _ _ _ _ _ _ _ _ HO.out).mono ?_; rintro e w1 ⟨rfl, hb⟩))
        go_ret
        exact ⟨rfl, HX.out.2.1.trans (hb.mono HX.out.2.1.size)⟩
      · go_wp2_with (first
          | ((with_reducible show wpList _ _ _ (Oper.mk _ (Op.load 36 _) _ _ _ _ :: _) _ _); go_must (refine wpList_load_mid rfl 36 (.tmp 4) rfl br 0 rfl [.int .i64 a0_8, .int .i64 a0_9, .int .i64 a0_10, .int .i64 a0_11, .int .i64 a0_12] _ (range_part HX.out.2.2.2.1 0 _ rfl) Tryd.underlying36 rfl (by kernel_rfl) ?_))
          | (go_at_call 34; refine (check_Range.calls _ _ _ _ _ _ _ (by have := HO.out; rwa [if_neg hk] at this)).mono ?_; rintro e w1 ⟨rfl, hb⟩))
        go_ret
        exact ⟨rfl, HX.out.2.1.trans (hb.mono HX.out.2.1.size)⟩
    · have hC0 : w'.cell? ⟨bc, 0, none⟩ = some (.int .i64 a0_2) := blk_cell HX.out.2.2.1 0
      have hC5 : w'.cell? ⟨bc, 5, none⟩ = some (.int .i64 a0_7) := blk_cell HX.out.2.2.1 5
      by_cases h3 : a0_0 = 3
      · subst h3
        have HO : Hid ((if a0_1 = 1 then check_Contact.f a0_2 1 2 0 1 a0_7 else check_Range.f a0_8 a0_9 a0_10 2147483647 a0_12) = some r) := Lib.hid (by have := HH.out; simpa using this)
        clear HH
        by_cases hk : a0_1 = 1
        · subst hk
          go_wp2_with (first
            | ((with_reducible show wpList _ _ _ (Oper.mk _ (Op.store 34 _ _) _ _ _ _ :: _) _ _); go_must (refine wpList_store_blk rfl 34 (.tmp 3) (.tmp 17) rfl bc #[.int .i64 a0_2, .int .i64 1, .int .i64 2, .int .i64 0, .int .i64 1, .int .i64 (max a0_7 1)] rfl rfl HX.out.2.2.1 rfl (by kernel_rfl) (by simp [Value.oneCell']) ?_); intro w2 qC qo qb; replace qC := Aside0.mk qC; have qB := Aside0.mk (HX.out.2.1.trans (qb w.heap.size (by have := HX.out.2.2.2.2.1; omega))); have qR := Aside0.mk ((qo br (blk_ne HX.out.2.2.2.1 HX.out.2.2.1 (by decide))).trans HX.out.2.2.2.1); have qD := (qo w.heap.size (blk_ne HX.out.1 HX.out.2.2.1 (by decide))).trans HX.out.1; have qD0 : w2.cell? ⟨w.heap.size, 0, none⟩ = some (.int .i64 _) := blk_cell qD 0; have qD1 : w2.cell? ⟨w.heap.size, 1, none⟩ = some (.int .i64 _) := blk_cell qD 1; have qD7 : w2.cell? ⟨w.heap.size, 7, none⟩ = some (.int .i64 _) := blk_cell qD 7; replace qD := Aside0.mk qD; clear qo qb)
            | ((with_reducible show wpList _ _ _ (Oper.mk _ (Op.store 3 (.tmp 18) _) _ _ _ _ :: _) _ _); go_must (refine wpList_store_one rfl 3 (.tmp 18) (.const (.int .i64 2147483647)) rfl br 3 (.int .i64 2147483647) #[.int .i64 a0_8, .int .i64 a0_9, .int .i64 a0_10, .int .i64 2147483647, .int .i64 a0_12] rfl rfl qR.out (by simp) (by simp) (fun w hc hf => store_int _ _ _ _ _ _ hc hf Tryd.underlying3 (by kernel_rfl)) ?_); clear qD0 qD1 qD7; intro w3 qR3 qo qb; replace qC := Aside0.mk ((qo bc (blk_ne qC.out qR.out (by decide))).trans qC.out); replace qB := Aside0.mk (qB.out.trans (qb w.heap.size (by have := HX.out.2.2.2.2.2; omega))); replace qD := (qo w.heap.size (blk_ne qD.out qR.out (by decide))).trans qD.out; replace qR := Aside0.mk qR3; have qD0 : w3.cell? ⟨w.heap.size, 0, none⟩ = some (.int .i64 _) := blk_cell qD 0; have qD1 : w3.cell? ⟨w.heap.size, 1, none⟩ = some (.int .i64 _) := blk_cell qD 1; have qD7 : w3.cell? ⟨w.heap.size, 7, none⟩ = some (.int .i64 _) := blk_cell qD 7; replace qD := Aside0.mk qD; clear qo qb qR3)
            | ((with_reducible show wpList _ _ _ (Oper.mk _ (Op.store 3 (.tmp 25) _) _ _ _ _ :: _) _ _); go_must (refine wpList_store_one rfl 3 (.tmp 25) (.tmp 24) rfl bc 5 (.int .i64 a0_7) #[.int .i64 a0_2, .int .i64 1, .int .i64 2, .int .i64 0, .int .i64 1, .int .i64 a0_7] rfl rfl qC.out (by simp) (by simp) (fun w hc hf => store_int _ _ _ _ _ _ hc hf Tryd.underlying3 (by kernel_rfl)) ?_); clear qD0 qD1 qD7; intro w4 qC3 qo qb; replace qR := Aside0.mk ((qo br (blk_ne qR.out qC.out (by decide))).trans qR.out); replace qB := Aside0.mk (qB.out.trans (qb w.heap.size (by have := HX.out.2.2.2.2.1; omega))); replace qD := (qo w.heap.size (blk_ne qD.out qC.out (by decide))).trans qD.out; replace qC := Aside0.mk qC3; have qD1 : w4.cell? ⟨w.heap.size, 1, none⟩ = some (.int .i64 _) := blk_cell qD 1; replace qD := Aside0.mk qD; clear qo qb qC3)
            | ((with_reducible show wpList _ _ _ (Oper.mk _ (Op.load 34 _) _ _ _ _ :: _) _ _); go_must (refine wpList_load_mid rfl 34 (.tmp 3) rfl bc 0 rfl [.int .i64 a0_2, .int .i64 1, .int .i64 2, .int .i64 0, .int .i64 1, .int .i64 a0_7] _ (range_part qC.out 0 _ rfl) Tryd.underlying34 rfl (by kernel_rfl) ?_))
            | (go_at_call 33; refine (check_Contact.calls _ _ _ _ _ _ _ _ HO.out).mono ?_; rintro e w9 ⟨rfl, hb⟩))
          go_ret
          exact ⟨rfl, qB.out.trans (hb.mono qB.out.size)⟩
        · go_wp2_with (first
            | ((with_reducible show wpList _ _ _ (Oper.mk _ (Op.store 34 _ _) _ _ _ _ :: _) _ _); go_must (refine wpList_store_blk rfl 34 (.tmp 3) (.tmp 17) rfl bc #[.int .i64 a0_2, .int .i64 1, .int .i64 2, .int .i64 0, .int .i64 1, .int .i64 (max a0_7 1)] rfl rfl HX.out.2.2.1 rfl (by kernel_rfl) (by simp [Value.oneCell']) ?_); intro w2 qC qo qb; replace qC := Aside0.mk qC; have qB := Aside0.mk (HX.out.2.1.trans (qb w.heap.size (by have := HX.out.2.2.2.2.1; omega))); have qR := Aside0.mk ((qo br (blk_ne HX.out.2.2.2.1 HX.out.2.2.1 (by decide))).trans HX.out.2.2.2.1); have qD := (qo w.heap.size (blk_ne HX.out.1 HX.out.2.2.1 (by decide))).trans HX.out.1; have qD0 : w2.cell? ⟨w.heap.size, 0, none⟩ = some (.int .i64 _) := blk_cell qD 0; have qD1 : w2.cell? ⟨w.heap.size, 1, none⟩ = some (.int .i64 _) := blk_cell qD 1; have qD7 : w2.cell? ⟨w.heap.size, 7, none⟩ = some (.int .i64 _) := blk_cell qD 7; replace qD := Aside0.mk qD; clear qo qb)
            | ((with_reducible show wpList _ _ _ (Oper.mk _ (Op.store 3 (.tmp 18) _) _ _ _ _ :: _) _ _); go_must (refine wpList_store_one rfl 3 (.tmp 18) (.const (.int .i64 2147483647)) rfl br 3 (.int .i64 2147483647) #[.int .i64 a0_8, .int .i64 a0_9, .int .i64 a0_10, .int .i64 2147483647, .int .i64 a0_12] rfl rfl qR.out (by simp) (by simp) (fun w hc hf => store_int _ _ _ _ _ _ hc hf Tryd.underlying3 (by kernel_rfl)) ?_); clear qD0 qD1 qD7; intro w3 qR3 qo qb; replace qC := Aside0.mk ((qo bc (blk_ne qC.out qR.out (by decide))).trans qC.out); replace qB := Aside0.mk (qB.out.trans (qb w.heap.size (by have := HX.out.2.2.2.2.2; omega))); replace qD := (qo w.heap.size (blk_ne qD.out qR.out (by decide))).trans qD.out; replace qR := Aside0.mk qR3; have qD0 : w3.cell? ⟨w.heap.size, 0, none⟩ = some (.int .i64 _) := blk_cell qD 0; have qD1 : w3.cell? ⟨w.heap.size, 1, none⟩ = some (.int .i64 _) := blk_cell qD 1; have qD7 : w3.cell? ⟨w.heap.size, 7, none⟩ = some (.int .i64 _) := blk_cell qD 7; replace qD := Aside0.mk qD; clear qo qb qR3)
            | ((with_reducible show wpList _ _ _ (Oper.mk _ (Op.store 3 (.tmp 25) _) _ _ _ _ :: _) _ _); go_must (refine wpList_store_one rfl 3 (.tmp 25) (.tmp 24) rfl bc 5 (.int .i64 a0_7) #[.int .i64 a0_2, .int .i64 1, .int .i64 2, .int .i64 0, .int .i64 1, .int .i64 a0_7] rfl rfl qC.out (by simp) (by simp) (fun w hc hf => store_int _ _ _ _ _ _ hc hf Tryd.underlying3 (by kernel_rfl)) ?_); clear qD0 qD1 qD7; intro w4 qC3 qo qb; replace qR := Aside0.mk ((qo br (blk_ne qR.out qC.out (by decide))).trans qR.out); replace qB := Aside0.mk (qB.out.trans (qb w.heap.size (by have := HX.out.2.2.2.2.1; omega))); replace qD := (qo w.heap.size (blk_ne qD.out qC.out (by decide))).trans qD.out; replace qC := Aside0.mk qC3; have qD1 : w4.cell? ⟨w.heap.size, 1, none⟩ = some (.int .i64 _) := blk_cell qD 1; replace qD := Aside0.mk qD; clear qo qb qC3)
            | ((with_reducible show wpList _ _ _ (Oper.mk _ (Op.load 36 _) _ _ _ _ :: _) _ _); go_must (refine wpList_load_mid rfl 36 (.tmp 4) rfl br 0 rfl [.int .i64 a0_8, .int .i64 a0_9, .int .i64 a0_10, .int .i64 2147483647, .int .i64 a0_12] _ (range_part qR.out 0 _ rfl) Tryd.underlying36 rfl (by kernel_rfl) ?_))
            | (go_at_call 34; refine (check_Range.calls _ _ _ _ _ _ _ (by have := HO.out; rwa [if_neg hk] at this)).mono ?_; rintro e w9 ⟨rfl, hb⟩))
          go_ret
          exact ⟨rfl, qB.out.trans (hb.mono qB.out.size)⟩
      · have HO : Hid ((if a0_1 = 1 then check_Contact.f a0_2 1 2 0 1 (max a0_7 1) else check_Range.f a0_8 a0_9 a0_10 2147483647 a0_12) = some r) := Lib.hid (by have := HH.out; rw [if_neg ho, if_neg h3, if_neg ho] at this; exact this)
        clear HH
        by_cases hk : a0_1 = 1
        · subst hk
          go_wp2_with (first
            | ((with_reducible show wpList _ _ _ (Oper.mk _ (Op.store 34 _ _) _ _ _ _ :: _) _ _); go_must (refine wpList_store_blk rfl 34 (.tmp 3) (.tmp 17) rfl bc #[.int .i64 a0_2, .int .i64 1, .int .i64 2, .int .i64 0, .int .i64 1, .int .i64 (max a0_7 1)] rfl rfl HX.out.2.2.1 rfl (by kernel_rfl) (by simp [Value.oneCell']) ?_); intro w2 qC qo qb; replace qC := Aside0.mk qC; have qB := Aside0.mk (HX.out.2.1.trans (qb w.heap.size (by have := HX.out.2.2.2.2.1; omega))); have qR := Aside0.mk ((qo br (blk_ne HX.out.2.2.2.1 HX.out.2.2.1 (by decide))).trans HX.out.2.2.2.1); have qD := (qo w.heap.size (blk_ne HX.out.1 HX.out.2.2.1 (by decide))).trans HX.out.1; have qD0 : w2.cell? ⟨w.heap.size, 0, none⟩ = some (.int .i64 _) := blk_cell qD 0; have qD1 : w2.cell? ⟨w.heap.size, 1, none⟩ = some (.int .i64 _) := blk_cell qD 1; have qD7 : w2.cell? ⟨w.heap.size, 7, none⟩ = some (.int .i64 _) := blk_cell qD 7; replace qD := Aside0.mk qD; clear qo qb)
            | ((with_reducible show wpList _ _ _ (Oper.mk _ (Op.store 3 (.tmp 18) _) _ _ _ _ :: _) _ _); go_must (refine wpList_store_one rfl 3 (.tmp 18) (.const (.int .i64 2147483647)) rfl br 3 (.int .i64 2147483647) #[.int .i64 a0_8, .int .i64 a0_9, .int .i64 a0_10, .int .i64 2147483647, .int .i64 a0_12] rfl rfl qR.out (by simp) (by simp) (fun w hc hf => store_int _ _ _ _ _ _ hc hf Tryd.underlying3 (by kernel_rfl)) ?_); clear qD0 qD1 qD7; intro w3 qR3 qo qb; replace qC := Aside0.mk ((qo bc (blk_ne qC.out qR.out (by decide))).trans qC.out); replace qB := Aside0.mk (qB.out.trans (qb w.heap.size (by have := HX.out.2.2.2.2.2; omega))); replace qD := (qo w.heap.size (blk_ne qD.out qR.out (by decide))).trans qD.out; replace qR := Aside0.mk qR3; have qD0 : w3.cell? ⟨w.heap.size, 0, none⟩ = some (.int .i64 _) := blk_cell qD 0; have qD1 : w3.cell? ⟨w.heap.size, 1, none⟩ = some (.int .i64 _) := blk_cell qD 1; have qD7 : w3.cell? ⟨w.heap.size, 7, none⟩ = some (.int .i64 _) := blk_cell qD 7; replace qD := Aside0.mk qD; clear qo qb qR3)
            | ((with_reducible show wpList _ _ _ (Oper.mk _ (Op.load 34 _) _ _ _ _ :: _) _ _); go_must (refine wpList_load_mid rfl 34 (.tmp 3) rfl bc 0 rfl [.int .i64 a0_2, .int .i64 1, .int .i64 2, .int .i64 0, .int .i64 1, .int .i64 (max a0_7 1)] _ (range_part qC.out 0 _ rfl) Tryd.underlying34 rfl (by kernel_rfl) ?_))
            | (go_at_call 33; refine (check_Contact.calls _ _ _ _ _ _ _ _ HO.out).mono ?_; rintro e w9 ⟨rfl, hb⟩))
          go_ret
          exact ⟨rfl, qB.out.trans (hb.mono qB.out.size)⟩
        · go_wp2_with (first
            | ((with_reducible show wpList _ _ _ (Oper.mk _ (Op.store 34 _ _) _ _ _ _ :: _) _ _); go_must (refine wpList_store_blk rfl 34 (.tmp 3) (.tmp 17) rfl bc #[.int .i64 a0_2, .int .i64 1, .int .i64 2, .int .i64 0, .int .i64 1, .int .i64 (max a0_7 1)] rfl rfl HX.out.2.2.1 rfl (by kernel_rfl) (by simp [Value.oneCell']) ?_); intro w2 qC qo qb; replace qC := Aside0.mk qC; have qB := Aside0.mk (HX.out.2.1.trans (qb w.heap.size (by have := HX.out.2.2.2.2.1; omega))); have qR := Aside0.mk ((qo br (blk_ne HX.out.2.2.2.1 HX.out.2.2.1 (by decide))).trans HX.out.2.2.2.1); have qD := (qo w.heap.size (blk_ne HX.out.1 HX.out.2.2.1 (by decide))).trans HX.out.1; have qD0 : w2.cell? ⟨w.heap.size, 0, none⟩ = some (.int .i64 _) := blk_cell qD 0; have qD1 : w2.cell? ⟨w.heap.size, 1, none⟩ = some (.int .i64 _) := blk_cell qD 1; have qD7 : w2.cell? ⟨w.heap.size, 7, none⟩ = some (.int .i64 _) := blk_cell qD 7; replace qD := Aside0.mk qD; clear qo qb)
            | ((with_reducible show wpList _ _ _ (Oper.mk _ (Op.store 3 (.tmp 18) _) _ _ _ _ :: _) _ _); go_must (refine wpList_store_one rfl 3 (.tmp 18) (.const (.int .i64 2147483647)) rfl br 3 (.int .i64 2147483647) #[.int .i64 a0_8, .int .i64 a0_9, .int .i64 a0_10, .int .i64 2147483647, .int .i64 a0_12] rfl rfl qR.out (by simp) (by simp) (fun w hc hf => store_int _ _ _ _ _ _ hc hf Tryd.underlying3 (by kernel_rfl)) ?_); clear qD0 qD1 qD7; intro w3 qR3 qo qb; replace qC := Aside0.mk ((qo bc (blk_ne qC.out qR.out (by decide))).trans qC.out); replace qB := Aside0.mk (qB.out.trans (qb w.heap.size (by have := HX.out.2.2.2.2.2; omega))); replace qD := (qo w.heap.size (blk_ne qD.out qR.out (by decide))).trans qD.out; replace qR := Aside0.mk qR3; have qD0 : w3.cell? ⟨w.heap.size, 0, none⟩ = some (.int .i64 _) := blk_cell qD 0; have qD1 : w3.cell? ⟨w.heap.size, 1, none⟩ = some (.int .i64 _) := blk_cell qD 1; have qD7 : w3.cell? ⟨w.heap.size, 7, none⟩ = some (.int .i64 _) := blk_cell qD 7; replace qD := Aside0.mk qD; clear qo qb qR3)
            | ((with_reducible show wpList _ _ _ (Oper.mk _ (Op.load 36 _) _ _ _ _ :: _) _ _); go_must (refine wpList_load_mid rfl 36 (.tmp 4) rfl br 0 rfl [.int .i64 a0_8, .int .i64 a0_9, .int .i64 a0_10, .int .i64 2147483647, .int .i64 a0_12] _ (range_part qR.out 0 _ rfl) Tryd.underlying36 rfl (by kernel_rfl) ?_))
            | (go_at_call 34; refine (check_Range.calls _ _ _ _ _ _ _ (by have := HO.out; rwa [if_neg hk] at this)).mono ?_; rintro e w9 ⟨rfl, hb⟩))
          go_ret
          exact ⟨rfl, qB.out.trans (hb.mono qB.out.size)⟩
end Go.Proofs.YtndijkndllpkgaaDoor.Pr
/- '==' of directives. -/
namespace Go.Proofs.YtndijkndllpkgaaDoor.Frm.E
open Go.RowKit Go.Proofs.YtndijkndllpkgaaDoorW.PrintWords Go.Proofs.YtndijkndllpkgaaDoor.Frm
set_option linter.unusedVariables false
set_option linter.unusedSimpArgs false
theorem eqA34 (d : Nat) (w : World) (x0 y0 : Int) (x1 y1 : Int) (x2 y2 : Int) (x3 y3 : Int) (x4 y4 : Int) (x5 y5 : Int) :
    (Op.equalIn (d + 2) 34 (.agg #[.int .i64 x0, .int .i64 x1, .int .i64 x2, .int .i64 x3, .int .i64 x4, .int .i64 x5]) (.agg #[.int .i64 y0, .int .i64 y1, .int .i64 y2, .int .i64 y3, .int .i64 y4, .int .i64 y5])).run Tryd.prog w = .ok (x0 == y0 && (x1 == y1 && (x2 == y2 && (x3 == y3 && (x4 == y4 && (x5 == y5)))))) w := by
  refine eqA_of Tryd.underlying34 (by kernel_rfl) ?_
  refine eqf_cons (by rfl) (by go_simp; rfl) (by go_simp; rfl) (by go_simp) ?_
  refine eqf_cons (by rfl) (by go_simp; rfl) (by go_simp; rfl) (by go_simp) ?_
  refine eqf_cons (by rfl) (by go_simp; rfl) (by go_simp; rfl) (by go_simp) ?_
  refine eqf_cons (by rfl) (by go_simp; rfl) (by go_simp; rfl) (by go_simp) ?_
  refine eqf_cons (by rfl) (by go_simp; rfl) (by go_simp; rfl) (by go_simp) ?_
  exact eqf_last (by rfl) (by go_simp; rfl) (by go_simp; rfl) (by go_simp)
theorem eqA36 (d : Nat) (w : World) (x0 y0 : Int) (x1 y1 : Int) (x2 y2 : Int) (x3 y3 : Int) (x4 y4 : Int) :
    (Op.equalIn (d + 2) 36 (.agg #[.int .i64 x0, .int .i64 x1, .int .i64 x2, .int .i64 x3, .int .i64 x4]) (.agg #[.int .i64 y0, .int .i64 y1, .int .i64 y2, .int .i64 y3, .int .i64 y4])).run Tryd.prog w = .ok (x0 == y0 && (x1 == y1 && (x2 == y2 && (x3 == y3 && (x4 == y4))))) w := by
  refine eqA_of Tryd.underlying36 (by kernel_rfl) ?_
  refine eqf_cons (by rfl) (by go_simp; rfl) (by go_simp; rfl) (by go_simp) ?_
  refine eqf_cons (by rfl) (by go_simp; rfl) (by go_simp; rfl) (by go_simp) ?_
  refine eqf_cons (by rfl) (by go_simp; rfl) (by go_simp; rfl) (by go_simp) ?_
  refine eqf_cons (by rfl) (by go_simp; rfl) (by go_simp; rfl) (by go_simp) ?_
  exact eqf_last (by rfl) (by go_simp; rfl) (by go_simp; rfl) (by go_simp)
theorem eqA38 (d : Nat) (w : World) (x0 y0 : Int) (x1 y1 : Int) (x2 y2 : Int) (x3 y3 : Int) (x4 y4 : Int) (x5 y5 : Int) (x6 y6 : Int) (x7 y7 : Int) (x8 y8 : Int) (x9 y9 : Int) (x10 y10 : Int) (x11 y11 : Int) (x12 y12 : Int) :
    (Op.equalIn (d + 3) 38 (.agg #[.int .i64 x0, .int .i64 x1, .int .i64 x2, .int .i64 x3, .int .i64 x4, .int .i64 x5, .int .i64 x6, .int .i64 x7, .int .i64 x8, .int .i64 x9, .int .i64 x10, .int .i64 x11, .int .i64 x12]) (.agg #[.int .i64 y0, .int .i64 y1, .int .i64 y2, .int .i64 y3, .int .i64 y4, .int .i64 y5, .int .i64 y6, .int .i64 y7, .int .i64 y8, .int .i64 y9, .int .i64 y10, .int .i64 y11, .int .i64 y12])).run Tryd.prog w = .ok (x0 == y0 && (x1 == y1 && ((x2 == y2 && (x3 == y3 && (x4 == y4 && (x5 == y5 && (x6 == y6 && (x7 == y7)))))) && ((x8 == y8 && (x9 == y9 && (x10 == y10 && (x11 == y11 && (x12 == y12))))))))) w := by
  refine eqA_of Tryd.underlying38 (by kernel_rfl) ?_
  refine eqf_cons (by rfl) (by go_simp; rfl) (by go_simp; rfl) (by go_simp) ?_
  refine eqf_cons (by rfl) (by go_simp; rfl) (by go_simp; rfl) (by go_simp) ?_
  refine eqf_cons (by rfl) (by go_simp) (by go_simp) (eqA34 (d + 0) w _ _ _ _ _ _ _ _ _ _ _ _) ?_
  exact eqf_last (by rfl) (by go_simp) (by go_simp) (eqA36 (d + 0) w _ _ _ _ _ _ _ _ _ _)
theorem len13 {l : List Int} (h : l.length = 13) : ∃ x0 x1 x2 x3 x4 x5 x6 x7 x8 x9 x10 x11 x12, l = [x0, x1, x2, x3, x4, x5, x6, x7, x8, x9, x10, x11, x12] := by
  match l, h with
  | [x0, x1, x2, x3, x4, x5, x6, x7, x8, x9, x10, x11, x12], _ => exact ⟨x0, x1, x2, x3, x4, x5, x6, x7, x8, x9, x10, x11, x12, rfl⟩
theorem eqD (w : World) (l m : List Int) (hl : l.length = 13) (hm : m.length = 13) : (Op.equalIn 10000 38 (.agg (ints l).toArray) (.agg (ints m).toArray)).run Tryd.prog w = .ok (decide (l = m)) w := by
  obtain ⟨x0, x1, x2, x3, x4, x5, x6, x7, x8, x9, x10, x11, x12, rfl⟩ := len13 hl
  obtain ⟨y0, y1, y2, y3, y4, y5, y6, y7, y8, y9, y10, y11, y12, rfl⟩ := len13 hm
  have h := eqA38 9997 w x0 y0 x1 y1 x2 y2 x3 y3 x4 y4 x5 y5 x6 y6 x7 y7 x8 y8 x9 y9 x10 y10 x11 y11 x12 y12
  refine h.trans ?_
  congr 1
  simp [Bool.and_assoc]
  try rfl
end Go.Proofs.YtndijkndllpkgaaDoor.Frm.E
