/- An executor of translated code on abstract states, fourth part: operations that yield a value and turn nothing. -/
import Derived.Test.YtggikacbelogcaaGreatExC
namespace Go.Proofs.YtggikacbelogcaaGreat.Ex
open Go Go.RowKit
set_option linter.unusedVariables false
set_option linter.unusedSimpArgs false

def mn (a b : Int) : Int := if b < a then b else a
def mx (a b : Int) : Int := if a < b then b else a
section
variable {P : Program} {w0 : Org} {w : World} {N : Nat} {S : AS} {o : Oper} {ρ : Type} {r : ρ} {ev : Operand → Value} {v : Value}
theorem run_of {s : Sem Value} (hs : execOp ev o = (do pure (Next.value (← s)))) (h : s.run P w = .ok v w) : (execOp ev o).run P w = .ok (.value v) w := by
  rw [hs]
  simp [Sem.run_bind, h]
theorem ev_v {m : Nm} {S : AS} {a : Act} {x : Operand} {y : Value} (hr : Rep w0 N m S a w) (h : S.ev x = .v y) : a.eval x = y := by
  have h1 := hr.ev x
  rw [h] at h1
  generalize a.eval x = z at h1
  cases h1
  rfl
theorem run_of_w {w1 : World} {s : Sem Value} (hs : execOp ev o = (do pure (Next.value (← s)))) (h : s.run P w = .ok v w1) : (execOp ev o).run P w = .ok (.value v) w1 := by
  rw [hs]
  simp [Sem.run_bind, h]
/-! move, assign, pick -/
theorem move_ok {x : Operand} {κ : PV → Option ρ} (ho : o.op = .move x ∨ o.op = .assign x) (h : κ (S.ev x) = some r) : SoundV P w0 N S o κ r :=
  ⟨_, h, fun m a w hr => ⟨a.eval x, by unfold execOp; rcases ho with ho | ho <;> simp only [ho] <;> rfl, hr.ev x⟩⟩
def opPick (S : AS) (c a b : Operand) (κ : PV → Option ρ) : Option ρ := match S.ev c with
  | .v (.bool t) => bif t then κ (S.ev a) else κ (S.ev b)
  | _ => none
theorem pick_ok {c x y : Operand} {κ : PV → Option ρ} (ho : o.op = .pick c x y) (h : opPick S c x y κ = some r) : SoundV P w0 N S o κ r := by
  unfold opPick at h
  split at h
  · rename_i t hc
    have hcv : ∀ m a w, Rep w0 N m S a w → a.eval c = .bool t := fun m a w hr => ev_v hr hc
    rcases cond_some h with ⟨rfl, h⟩ | ⟨rfl, h⟩
    · exact ⟨_, h, fun m a w hr => ⟨a.eval x, by unfold execOp; simp only [ho, hcv m a w hr]; rfl, hr.ev x⟩⟩
    · exact ⟨_, h, fun m a w hr => ⟨a.eval y, by unfold execOp; simp only [ho, hcv m a w hr]; rfl, hr.ev y⟩⟩
  · cases h
/-! binary operations -/
def opBin (P : Program) (op : BinOp) (t : TypeId) (x y : PV) (κ : PV → Option ρ) : Option ρ := match x, y with
  | .v (.int k a), .v (.int k' b) => match op with
    | .shr => bif decide (b < 0) then none else κ (.v (.int k (a.fdiv (2 ^ (min b.toNat k.bits)))))
    | .shl => none
    | op => bif decide (k = k') then binI op k a b κ else none
  | .v (.string a), .v (.string b) => binS op a b κ
  | x, y => bif P.eqGuardType P.depth t then none else match op with
    | .eql => match eqB P 40 t x y with
      | some c => κ (.v (.bool c))
      | none => none
    | .neq => match eqB P 40 t x y with
      | some c => κ (.v (.bool (!c)))
      | none => none
    | _ => none
theorem run_bin {op : BinOp} {x y : Operand} {t yt : TypeId} {vx vy : Value} (ho : o.op = .binOp op t x y yt) (hx : ev x = vx) (hy : ev y = vy) (hg : (eqGuard op t x y vx vy).run P w = .ok () w) (h : (binOp op t vx vy).run P w = .ok v w) : (execOp ev o).run P w = .ok (.value v) w := by
  unfold execOp
  simp only [ho, hx, hy]
  simp [Sem.run_bind, hg, h]
theorem guard_int {op : BinOp} {x y : Operand} {t : TypeId} {k k' : IntKind} {a b : Int} : (eqGuard op t x y (.int k a) (.int k' b)).run P w = .ok () w := by
  unfold eqGuard
  cases op <;> simp
theorem guard_string {op : BinOp} {x y : Operand} {t : TypeId} {a b : ByteArray} : (eqGuard op t x y (.string a) (.string b)).run P w = .ok () w := by
  unfold eqGuard
  cases op <;> simp
theorem binI_ok {op : BinOp} {t : TypeId} {k : IntKind} {a b : Int} {κ : PV → Option ρ} (h : binI op k a b κ = some r) : ∃ v, κ (.v v) = some r ∧ ∀ w, (binOp op t (.int k a) (.int k b)).run P w = .ok v w := by
  unfold binI at h
  cases op <;> simp only at h
  case quo | rem =>
    rcases cond_some h with ⟨_, h2⟩ | ⟨h1, h2⟩
    · cases h2
    · exact ⟨_, h2, fun w => by have := of_decide_eq_false h1; simp [binOp, Op.intDiv, this]⟩
  all_goals first
    | (cases h; done)
    | (refine ⟨_, h, fun w => ?_⟩; simp [binOp, Op.intArith]; done)
    | (refine ⟨_, h, fun w => ?_⟩; simp [binOp, Op.intCmp]; done)
    | (refine ⟨_, h, fun w => ?_⟩; simp [binOp, Op.intCmp]; rfl)
    | (refine ⟨_, h, fun w => ?_⟩; simp [binOp, Op.intCmp, bne]; rfl)
theorem binS_ok {op : BinOp} {t : TypeId} {a b : ByteArray} {κ : PV → Option ρ} (h : binS op a b κ = some r) : ∃ v, κ (.v v) = some r ∧ ∀ w, (binOp op t (.string a) (.string b)).run P w = .ok v w := by
  unfold binS at h
  cases op <;> simp only at h <;> first
    | cases h
    | exact ⟨_, h, fun w => by simp [binOp, Op.stringOp]⟩
    | skip
  rcases cond_some h with ⟨h1, h2⟩ | ⟨_, h2⟩
  · refine ⟨_, h2, fun w => ?_⟩
    have := of_decide_eq_true h1
    have h3 : ¬ (((a.size + b.size : Nat) : Int) > IntKind.i64.max) := by simp [IntKind.max, IntKind.signed, IntKind.bits]; omega
    simp only [binOp, Op.stringOp]
    rw [if_neg h3]
    rfl
  · cases h2
theorem eqGuard_ok {m : Nm} {B0 : Nat} {op : BinOp} {ox oy : Operand} {t : TypeId} {x y : PV} {vx vy : Value} {c : Bool} (hg : P.eqGuardType P.depth t = false) (h : eqB P 40 t x y = some c) (hx : RepV m B0 w x vx) (hy : RepV m B0 w y vy) (W : World) : (eqGuard op t ox oy vx vy).run P W = .ok () W := by
  unfold eqB at h
  have agg : ∀ xs ys, (eqGuard op t ox oy (.agg xs) (.agg ys)).run P W = .ok () W := fun xs ys => by
    unfold eqGuard
    cases op <;> simp [program, Sem.run_bind, Sem.run, hg]
  split at h
  · split at h
    · cases hx; cases hy; exact agg _ _
    · cases h
  · split at h
    · cases hx; cases hy; exact agg _ _
    · cases h
  · unfold eqLeaf at h
    split at h
    · cases hx; cases hy; unfold eqGuard; cases op <;> simp
    · cases hx; cases hy; unfold eqGuard; cases op <;> simp
    · cases hx; cases hy; unfold eqGuard; cases op <;> simp
    · cases h
  · cases h
theorem eqB_bin {m : Nm} {B0 : Nat} {t : TypeId} {x y : PV} {vx vy : Value} {c : Bool} (hn1 : ∀ k a k' b, x = .v (.int k a) → y = .v (.int k' b) → False) (hn2 : ∀ a b, x = .v (.string a) → y = .v (.string b) → False) (h : eqB P 40 t x y = some c) (hx : RepV m B0 w x vx) (hy : RepV m B0 w y vy) {W : World} (he : (Go.Op.equal t vx vy).run P W = .ok c W) :
    (binOp .eql t vx vy).run P W = .ok (.bool c) W ∧ (binOp .neq t vx vy).run P W = .ok (.bool (!c)) W := by
  unfold eqB at h
  split at h
  · split at h
    · cases hx; cases hy; simp [binOp, Sem.run_bind, he]
    · cases h
  · split at h
    · cases hx; cases hy; simp [binOp, Sem.run_bind, he]
    · cases h
  · unfold eqLeaf at h
    split at h
    · cases hx; cases hy; simp [binOp, Sem.run_bind, he]
    · exact (hn1 _ _ _ _ rfl rfl).elim
    · exact (hn2 _ _ rfl rfl).elim
    · cases h
  · cases h
theorem bin_ok {op : BinOp} {x y : Operand} {t yt : TypeId} {κ : PV → Option ρ} (ho : o.op = .binOp op t x y yt) (h : opBin P op t (S.ev x) (S.ev y) κ = some r) : SoundV P w0 N S o κ r := by
  unfold opBin at h
  split at h
  · rename_i k a k' b hx hy
    have hxv : ∀ m ac w, Rep w0 N m S ac w → ac.eval x = .int k a ∧ ac.eval y = .int k' b := fun m ac w hr => ⟨ev_v hr hx, ev_v hr hy⟩
    split at h
    · rcases cond_some h with ⟨_, h2⟩ | ⟨h1, h2⟩
      · cases h2
      · have hb := of_decide_eq_false h1
        exact ⟨_, h2, fun m ac w hr => ⟨_, run_bin ho (hxv m ac w hr).1 (hxv m ac w hr).2 guard_int (by simp only [binOp, Op.shift, if_neg hb]; rfl), .v⟩⟩
    · cases h
    · rename_i hs1 hs2
      rcases cond_some h with ⟨h1, h2⟩ | ⟨_, h2⟩
      · have := of_decide_eq_true h1
        subst this
        obtain ⟨v, hv1, hv2⟩ := binI_ok (P := P) (t := t) h2
        exact ⟨_, hv1, fun m ac w hr => ⟨v, run_bin ho (hxv m ac w hr).1 (hxv m ac w hr).2 guard_int (hv2 w), .v⟩⟩
      · cases h2
  · rename_i a b hx hy
    obtain ⟨v, hv1, hv2⟩ := binS_ok (P := P) (t := t) h
    refine ⟨_, hv1, fun m ac w hr => ?_⟩
    exact ⟨v, run_bin ho (ev_v hr hx) (ev_v hr hy) guard_string (hv2 w), .v⟩
  · rename_i hn1 hn2
    rcases cond_some h with ⟨_, h2⟩ | ⟨hg, h⟩
    · cases h2
    have guard : ∀ {op : BinOp} {c : Bool}, eqB P 40 t (S.ev x) (S.ev y) = some c → ∀ m ac w, Rep w0 N m S ac w → (eqGuard op t x y (ac.eval x) (ac.eval y)).run P w = .ok () w := fun hc m ac w hr => eqGuard_ok hg hc (hr.ev x) (hr.ev y) w
    have key : ∀ {c : Bool}, eqB P 40 t (S.ev x) (S.ev y) = some c → ∀ m ac w, Rep w0 N m S ac w → (Go.Op.equal t (ac.eval x) (ac.eval y)).run P w = .ok c w := fun hc m ac w hr => eqB_ok hc (hr.ev x) (hr.ev y) 10000 (by decide) w
    split at h
    · split at h
      · rename_i c hc
        refine ⟨_, h, fun m ac w hr => ⟨_, run_bin ho rfl rfl (guard hc m ac w hr) ?_, .v⟩⟩
        exact (eqB_bin hn1 hn2 hc (hr.ev x) (hr.ev y) (key hc m ac w hr)).1
      · cases h
    · split at h
      · rename_i c hc
        refine ⟨_, h, fun m ac w hr => ⟨_, run_bin ho rfl rfl (guard hc m ac w hr) ?_, .v⟩⟩
        exact (eqB_bin hn1 hn2 hc (hr.ev x) (hr.ev y) (key hc m ac w hr)).2
      · cases h
    · cases h
end
end Go.Proofs.YtggikacbelogcaaGreat.Ex
