/- An executor of translated code on abstract states, second part: operations that yield a value and turn nothing. -/
import Derived.Test.YtggikacbelogcaaGreatExA
import Derived.Laws.StructEq
namespace Go.Proofs.YtggikacbelogcaaGreat.Ex
open Go Go.RowKit
set_option linter.unusedVariables false

/-! ### lists of values -/
section
variable {m : Nm} {B0 : Nat} {w : World} {ps qs : List PV} {vs us : List Value}
theorem RepVs.len (h : RepVs m B0 w ps vs) : ps.length = vs.length := by
  induction ps generalizing vs with
  | nil => cases h; rfl
  | cons p ps ih => cases h with | cons h hs => simp [ih hs]
theorem RepVs.append (h : RepVs m B0 w ps vs) (h' : RepVs m B0 w qs us) : RepVs m B0 w (ps ++ qs) (vs ++ us) := by
  induction ps generalizing vs with
  | nil => cases h; exact h'
  | cons p ps ih => cases h with | cons h hs => exact .cons h (ih hs)
theorem RepVs.drop (h : RepVs m B0 w ps vs) (n : Nat) : RepVs m B0 w (ps.drop n) (vs.drop n) := by
  induction ps generalizing vs n with
  | nil => cases h; simpa using RepVs.nil
  | cons p ps ih =>
    cases h with
    | cons h hs =>
      cases n with
      | zero => exact .cons h hs
      | succ n => exact ih hs n
theorem RepVs.take (h : RepVs m B0 w ps vs) (n : Nat) : RepVs m B0 w (ps.take n) (vs.take n) := by
  induction ps generalizing vs n with
  | nil => cases h; simpa using RepVs.nil
  | cons p ps ih =>
    cases h with
    | cons h hs =>
      cases n with
      | zero => exact .nil
      | succ n => exact .cons h (ih hs n)
theorem RepVs.get {i : Nat} {p : PV} (h : RepVs m B0 w ps vs) (hp : ps[i]? = some p) : ∃ v, vs[i]? = some v ∧ RepV m B0 w p v := by
  induction ps generalizing vs i with
  | nil => simp at hp
  | cons q ps ih =>
    cases h with
    | cons h hs =>
      cases i with
      | zero => simp only [List.getElem?_cons_zero, Option.some.injEq] at hp; subst hp; exact ⟨_, rfl, h⟩
      | succ i => simpa using ih hs (by simpa using hp)
theorem RepVs.exact (l : List Value) : RepVs m B0 w (l.map .v) l := by
  induction l with
  | nil => exact .nil
  | cons v l ih => exact .cons .v ih
theorem RepVs.map {α : Type} {f : α → PV} {g : α → Value} (h : ∀ x, RepV m B0 w (f x) (g x)) (l : List α) : RepVs m B0 w (l.map f) (l.map g) := by
  induction l with
  | nil => exact .nil
  | cons x l ih => exact .cons (h x) ih
end
/-- A value's cells. -/
def PV.cells : PV → Option (List PV)
  | .agg cs => some cs
  | .v x => some (x.cells.toList.map .v)
  | .un => none
  | .tup _ => none
  | x => some [x]
theorem PV.cells_ok {m : Nm} {B0 : Nat} {w : World} {x : PV} {v : Value} {cs : List PV} (h : RepV m B0 w x v) (hc : x.cells = some cs) : RepVs m B0 w cs v.cells.toList := by
  cases h with
  | un => cases hc
  | tup h => cases hc
  | v => simp only [PV.cells, Option.some.injEq] at hc; subst hc; exact RepVs.exact _
  | agg h => simp only [PV.cells, Option.some.injEq] at hc; subst hc; simpa [Value.cells] using h
  | row h =>
    simp only [PV.cells, Option.some.injEq] at hc
    subst hc
    have h0 := h
    simp only [SKIs] at h
    obtain ⟨A, c, rfl, _⟩ := h
    exact .cons (.row h0) .nil
  | own h => simp only [PV.cells, Option.some.injEq] at hc; subst hc; exact .cons (.own h) .nil
  | ptr => simp only [PV.cells, Option.some.injEq] at hc; subst hc; exact .cons .ptr .nil
  | rptr h => simp only [PV.cells, Option.some.injEq] at hc; subst hc; exact .cons (.rptr h) .nil
  | eptr h h0 h1 => simp only [PV.cells, Option.some.injEq] at hc; subst hc; exact .cons (.eptr h h0 h1) .nil
  | fn h => simp only [PV.cells, Option.some.injEq] at hc; subst hc; exact .cons (.fn h) .nil
  | ocut h h0 h1 => simp only [PV.cells, Option.some.injEq] at hc; subst hc; exact .cons (.ocut h h0 h1) .nil
  | prow h h1 h2 => simp only [PV.cells, Option.some.injEq] at hc; subst hc; exact .cons (.prow h h1 h2) .nil
  | pcel h h1 => simp only [PV.cells, Option.some.injEq] at hc; subst hc; exact .cons (.pcel h h1) .nil
  | rmap h h1 h2 h3 h4 => simp only [PV.cells, Option.some.injEq] at hc; subst hc; exact .cons (.rmap h h1 h2 h3 h4) .nil
  | mp => simp only [PV.cells, Option.some.injEq] at hc; subst hc; exact .cons .mp .nil
/-- A value of one cell. -/
def PV.one : PV → Bool
  | .v x => x.oneCell'
  | .un => false
  | .agg _ => false
  | .tup _ => false
  | _ => true
theorem PV.one_ok {m : Nm} {B0 : Nat} {w : World} {x : PV} {v : Value} (h : RepV m B0 w x v) (hc : x.one = true) : v.oneCell' = true := by
  cases h with
  | un => cases hc
  | tup h => cases hc
  | agg h => cases hc
  | v => exact hc
  | row h =>
    simp only [SKIs] at h
    obtain ⟨A, c, rfl, _⟩ := h
    rfl
  | own h => rfl
  | ptr => rfl
  | rptr h => rfl
  | eptr h h0 h1 => rfl
  | prow h h1 h2 => rfl
  | pcel h h1 => rfl
  | rmap h h1 h2 h3 h4 => rfl
  | mp => rfl
  | ocut h h0 h1 => rfl
  | fn h => rfl

/-! ### types -/
def aggB (P : Program) (t : TypeId) : Option Bool := match P.underlying t with
  | some (.struct _) => some true
  | some (.array _ _) => some true
  | some _ => some false
  | none => none
theorem aggB_ok {P : Program} {t : TypeId} {b : Bool} (h : aggB P t = some b) (w : World) : (isAgg t).run P w = .ok b w := by
  unfold aggB at h
  cases hu : P.underlying t with
  | none => rw [hu] at h; cases h
  | some d =>
    rw [hu] at h
    unfold isAgg
    rw [Sem.run_bind, run_underlying hu]
    cases d <;> simp_all <;> rfl
def sizeB (P : Program) (t : TypeId) : Option Nat := (P.info? t).map (·.size)
theorem sizeB_ok {P : Program} {t : TypeId} {n : Nat} (h : sizeB P t = some n) (w : World) : (sizeOf t).run P w = .ok n w := by
  unfold sizeB at h
  cases hi : P.info? t with
  | none => rw [hi] at h; cases h
  | some i =>
    rw [hi] at h
    simp only [Option.map_some, Option.some.injEq] at h
    simp [sizeOf, typeInfo, hi, h]
def zeroB (P : Program) (t : TypeId) : Option Value := (P.info? t).bind (·.zero)
theorem zeroB_ok {P : Program} {t : TypeId} {v : Value} (h : zeroB P t = some v) (w : World) : (zeroValue t).run P w = .ok v w := by
  unfold zeroB at h
  cases hi : P.info? t with
  | none => rw [hi] at h; cases h
  | some i =>
    rw [hi] at h
    simp only [Option.bind_some] at h
    simp [zeroValue, typeInfo, hi, h]
/-- A part of a struct. -/
def partB (P : Program) (t : TypeId) (cs : List PV) (off : Nat) : Option PV := match aggB P t with
  | some true => match sizeB P t with
    | some n => bif Nat.ble (off + n) cs.length then some (.agg ((cs.drop off).take n)) else none
    | none => none
  | some false => cs[off]?
  | none => none
theorem partB_ok {P : Program} {m : Nm} {B0 : Nat} {w : World} {t : TypeId} {cs : List PV} {vs : List Value} {off : Nat} {p : PV} (h : RepVs m B0 w cs vs) (hp : partB P t cs off = some p) (W : World) : ∃ v, (part t vs.toArray off).run P W = .ok v W ∧ RepV m B0 w p v := by
  unfold partB at hp
  unfold part
  cases ha : aggB P t with
  | none => rw [ha] at hp; cases hp
  | some b =>
    rw [ha] at hp
    simp only [Sem.run_bind, aggB_ok ha, Result.andThen_ok]
    cases b with
    | true =>
      simp only at hp
      cases hs : sizeB P t with
      | none => rw [hs] at hp; cases hp
      | some n =>
        rw [hs] at hp
        cases hble : Nat.ble (off + n) cs.length with
        | false => simp [hble] at hp
        | true =>
        simp only [hble, cond_true, Option.some.injEq] at hp
        subst hp
        refine ⟨_, by simp only [if_true, Sem.run_bind, sizeB_ok hs, Result.andThen_ok, Sem.run_pure]; rfl, ?_⟩
        have := RepV.agg ((h.drop off).take n)
        rw [List.extract_toArray]
        simpa [List.extract_eq_take_drop] using this
    | false =>
      simp only at hp
      obtain ⟨v, hv, hr⟩ := h.get hp
      refine ⟨v, ?_, hr⟩
      simp [hv]
end Go.Proofs.YtggikacbelogcaaGreat.Ex
