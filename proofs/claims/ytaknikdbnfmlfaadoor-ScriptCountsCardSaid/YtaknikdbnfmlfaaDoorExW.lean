/- An executor of translated code on abstract states, twenty-third part: what is carried, and handed back, where blocks are let go of. -/
import Derived.Test.YtaknikdbnfmlfaaDoorExQ
import Derived.Test.YtaknikdbnfmlfaaDoorExV
namespace Go.Proofs.YtaknikdbnfmlfaaDoor.Ex
open Go Go.RowKit
set_option linter.unusedVariables false
def frzL (S : AS) (l : TL) (x : PV) : AS := match l with
  | .ro _ => match x with
    | .own i => frzO S i
    | _ => S
  | _ => S
def frzLs (S : AS) : List TL → List PV → AS
  | l :: ls, c :: cs => frzLs (frzL S l c) ls cs
  | _, _ => S
def frzCaps (S : AS) : List PV → AS
  | [] => S
  | c :: cs => frzCaps (match c with
    | .ptr i _ => frzB S i
    | _ => S) cs
def frzFn (S : AS) (x : PV) : AS := match x with
  | .fn _ caps => frzCaps S caps
  | _ => S
def frzK (S : AS) (k : TK) (x : PV) : AS := match k with
  | .one l => frzL S l x
  | .agg ls => match x.parts with
    | some cs => frzLs S ls cs
    | none => S
  | .box _ ls => match x with
    | .ptr i _ => match S.σ i with
      | .box _ cs => frzLs S ls cs
      | _ => S
    | _ => S
  | .fnp _ _ => frzFn S x
  | .fnc _ => S
  | .mset => S
  | .obj _ => S
def frzT (S : AS) : List (Nat × TK) → AS
  | [] => S
  | k :: r => frzT (frzK S k.2 (S.fr k.1)) r
def frzP (S : AS) (k : PK) (x : PV) : AS := match k with
  | .one l => match l with
    | .fnc _ _ => frzFn S x
    | _ => S
  | _ => S
def frzPs (S : AS) : List PK → List PV → AS
  | k :: ks, x :: xs => frzPs (frzP S k x) ks xs
  | _, _ => S
def deZ (S : AS) (t : List (Nat × TK)) : Option (TT t) := deS (frzT S t) t
def reZ (P : Program) (S : AS) (rs : Array ResultVar) (R : List PK) : Option (PT R) := match resPV P S rs.toList with
  | some ps => reS P (frzPs S R ps) rs R
  | none => none
section
variable {P : Program} {w0 : Org} {w : World} {N : Nat} {a : Act}
def Can (w0 : Org) (N : Nat) (S : AS) (a : Act) (w : World) : Prop := ∃ m, Rep w0 N m S a w
theorem frzL_ok {S : AS} {l : TL} {x : PV} (h : Can w0 N S a w) : Can w0 N (frzL S l x) a w := by
  unfold frzL
  split
  · split
    · obtain ⟨m, h⟩ := h; exact frzO_ok h _
    · exact h
  · exact h
theorem frzLs_ok : ∀ {ls : List TL} {cs : List PV} {S : AS}, Can w0 N S a w → Can w0 N (frzLs S ls cs) a w
  | l :: ls, c :: cs, S, h => by unfold frzLs; exact frzLs_ok (frzL_ok h)
  | [], _, _, h => by unfold frzLs; exact h
  | _ :: _, [], _, h => by unfold frzLs; exact h
theorem frzCaps_ok : ∀ {cs : List PV} {S : AS}, Can w0 N S a w → Can w0 N (frzCaps S cs) a w
  | [], _, h => by unfold frzCaps; exact h
  | c :: cs, S, h => by
    unfold frzCaps
    refine frzCaps_ok ?_
    split
    · obtain ⟨m, h⟩ := h; exact frzB_ok h _
    · exact h
theorem frzFn_ok {S : AS} {x : PV} (h : Can w0 N S a w) : Can w0 N (frzFn S x) a w := by
  unfold frzFn
  split
  · exact frzCaps_ok h
  · exact h
theorem frzK_ok {S : AS} {k : TK} {x : PV} (h : Can w0 N S a w) : Can w0 N (frzK S k x) a w := by
  unfold frzK
  split
  · exact frzL_ok h
  · split
    · exact frzLs_ok h
    · exact h
  · split
    · split
      · exact frzLs_ok h
      · exact h
    · exact h
  · exact frzFn_ok h
  · exact h
  · exact h
  · exact h
theorem frzT_ok : ∀ {t : List (Nat × TK)} {S : AS}, Can w0 N S a w → Can w0 N (frzT S t) a w
  | [], _, h => by unfold frzT; exact h
  | k :: r, S, h => by unfold frzT; exact frzT_ok (frzK_ok h)
theorem frzP_ok {S : AS} {k : PK} {x : PV} (h : Can w0 N S a w) : Can w0 N (frzP S k x) a w := by
  unfold frzP
  split
  · split
    · exact frzFn_ok h
    · exact h
  · exact h
theorem frzPs_ok : ∀ {ks : List PK} {xs : List PV} {S : AS}, Can w0 N S a w → Can w0 N (frzPs S ks xs) a w
  | k :: ks, x :: xs, S, h => by unfold frzPs; exact frzPs_ok (frzP_ok h)
  | [], _, _, h => by unfold frzPs; exact h
  | _ :: _, [], _, h => by unfold frzPs; exact h
theorem deZ_ok {m : Nm} {S : AS} (hr : Rep w0 N m S a w) {t : List (Nat × TK)} {x : TT t} (h : deZ S t = some x) : ∃ m', Rep w0 N m' (mkS t x) a w := by
  obtain ⟨m', h'⟩ := frzT_ok (t := t) ⟨m, hr⟩
  exact deS_ok h' h
theorem reZ_ok {m : Nm} {S : AS} (hr : Rep w0 N m S a w) {fn : Func} {R : List PK} {x : PT R} (h : reZ P S fn.results R = some x) : Ret P fn R w0 x a w := by
  unfold reZ at h
  split at h
  · rename_i ps hps
    obtain ⟨m', h'⟩ := frzPs_ok (ks := R) (xs := ps) ⟨m, hr⟩
    exact reS_ok h' h
  · cases h
end
end Go.Proofs.YtaknikdbnfmlfaaDoor.Ex
