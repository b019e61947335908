/- An executor of translated code on abstract states, twenty-first part: loops' equations as one list. -/
import Derived.Test.YtggikacbelogcaaGreatExS
namespace Go.Proofs.YtggikacbelogcaaGreat.Ex
open Go Go.RowKit
section
variable {P : Program} {R : List PK}
abbrev w64 (n : Int) : Int := IntKind.i64.wrap n
def lp (b : Code) (i : Nat) : Code := (loopsOf b).getD i .skip
def LoopEqs (X : Cx P R) (b : Code) : List (Option (LAn R)) → Nat → Prop
  | [], _ => True
  | none :: r, i => LoopEqs X b r (i + 1)
  | some an :: r, i => ((∀ x, an.F 0 x = none) ∧ ∀ k x, an.F (k + 1) x = roundF X k an i (lp b i) x) ∧ LoopEqs X b r (i + 1)
theorem LoopEqs.get {X : Cx P R} {b : Code} : ∀ {L : List (Option (LAn R))} {j : Nat}, LoopEqs X b L j → ∀ i an c, getL L i = some an → (loopsOf b)[j + i]? = some c → (∀ x, an.F 0 x = none) ∧ ∀ k x, an.F (k + 1) x = roundF X k an (j + i) c x
  | [], j, h, i, an, c, hi, hc => by cases hi
  | none :: r, j, h, i, an, c, hi, hc => by
    cases i with
    | zero => cases hi
    | succ i =>
      have := LoopEqs.get (L := r) h i an c hi (by rwa [show j + 1 + i = j + (i + 1) by omega])
      rwa [show j + 1 + i = j + (i + 1) by omega] at this
  | some an' :: r, j, h, i, an, c, hi, hc => by
    cases i with
    | zero =>
      cases hi
      have : lp b j = c := by
        unfold lp
        rw [List.getD_eq_getElem?_getD]
        rw [Nat.add_zero] at hc
        rw [hc]; rfl
      rw [← this]
      exact h.1
    | succ i =>
      have := LoopEqs.get (L := r) h.2 i an c hi (by rwa [show j + 1 + i = j + (i + 1) by omega])
      rwa [show j + 1 + i = j + (i + 1) by omega] at this
theorem LoopEqs.all {X : Cx P R} {b : Code} (h : LoopEqs X b X.L 0) : LoopEq X b := fun i an c hi hc => by
  have := h.get i an c hi (by rwa [Nat.zero_add])
  rwa [Nat.zero_add] at this
end
end Go.Proofs.YtggikacbelogcaaGreat.Ex
