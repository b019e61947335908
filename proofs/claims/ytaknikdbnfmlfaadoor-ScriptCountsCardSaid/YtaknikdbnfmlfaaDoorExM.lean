/- An executor of translated code on abstract states, thirteenth part: what calls are told by, and a call's step. -/
import Derived.Test.YtaknikdbnfmlfaaDoorExI
namespace Go.Proofs.YtaknikdbnfmlfaaDoor.Ex
open Go Go.RowKit
set_option linter.unusedVariables false
set_option linter.unusedSimpArgs false
/-! ### kinds of parameters and results -/
inductive LK : Type where
  | sc (k : SK) | row (T : TypeId) (s : List SK) | ptr (s : List SK) | fnc (f : Nat) (ss : List (List SK))
/-- What a function value holds: cells that it reads. -/
def Tups : List (List SK) → Type
  | [] => Unit
  | k :: r => match r with
    | [] => Tup k
    | k' :: r' => Tup k × Tups (k' :: r')
inductive PK : Type where
  | one (l : LK) | agg (ls : List LK)
def LK.ty : LK → Type
  | .sc k => k.ty
  | .row _ s => List (Tup s)
  | .ptr s => Tup s
  | .fnc _ ss => Tups ss
def LT : List LK → Type
  | [] => Unit
  | k :: r => match r with
    | [] => k.ty
    | k' :: r' => k.ty × LT (k' :: r')
def PK.ty : PK → Type
  | .one l => l.ty
  | .agg ls => LT ls
def PT : List PK → Type
  | [] => Unit
  | k :: r => match r with
    | [] => k.ty
    | k' :: r' => k.ty × PT (k' :: r')
/-! ### arguments: what is read -/
def CapsIs (ok : Nat → Prop) (w : World) : (ss : List (List SK)) → Tups ss → List Value → Prop
  | [] => fun _ vs => vs = []
  | k :: r => match r with
    | [] => fun x vs => ∃ u, vs = [u] ∧ SKIs ok w (.ptr k) x u
    | k' :: r' => fun x vs => ∃ u us, vs = u :: us ∧ SKIs ok w (.ptr k) x.1 u ∧ CapsIs ok w (k' :: r') x.2 us
theorem CapsIs.move {ok ok' : Nat → Prop} {w w' : World} (hs : Stays ok ok' w w') : ∀ {ss : List (List SK)} {x : Tups ss} {vs : List Value}, CapsIs ok w ss x vs → CapsIs ok' w' ss x vs
  | [], _, _, h => h
  | [k], x, vs, h => by
    simp only [CapsIs] at h ⊢
    obtain ⟨u, rfl, h⟩ := h
    exact ⟨u, rfl, SKIs.move hs h⟩
  | k :: k' :: r, x, vs, h => by
    simp only [CapsIs] at h ⊢
    obtain ⟨u, us, rfl, h1, h2⟩ := h
    exact ⟨u, us, rfl, SKIs.move hs h1, CapsIs.move hs h2⟩
def capPs (fr : Bool) : (ss : List (List SK)) → Tups ss → List PV
  | [] => fun _ => []
  | k :: r => match r with
    | [] => fun x => [.rptr fr k x 0]
    | k' :: r' => fun x => .rptr fr k x.1 0 :: capPs fr (k' :: r') x.2
theorem rptr_of {m : Nm} {B0 : Nat} {w : World} {fr : Bool} {s : List SK} {x : Tup s} {v : Value} (h : SKIs (okOf m B0 fr) w (.ptr s) x v) : RepV m B0 w (.rptr fr s x 0) v := by
  have h0 := h
  simp only [SKIs] at h
  obtain ⟨b, o, cs, rfl, _⟩ := h
  exact .rptr h0
theorem capPs_ok {m : Nm} {B0 : Nat} {w : World} {fr : Bool} : ∀ {ss : List (List SK)} {x : Tups ss} {vs : List Value}, CapsIs (okOf m B0 fr) w ss x vs → RepVs m B0 w (capPs fr ss x) vs ∧ ∀ p, idsL p (capPs fr ss x) = true
  | [], x, vs, h => by
    simp only [CapsIs] at h
    subst h
    exact ⟨.nil, fun p => rfl⟩
  | [k], x, vs, h => by
    simp only [CapsIs] at h
    obtain ⟨u, rfl, h⟩ := h
    exact ⟨.cons (rptr_of h) .nil, fun p => rfl⟩
  | k :: k' :: r, x, vs, h => by
    simp only [CapsIs] at h
    obtain ⟨u, us, rfl, h1, h2⟩ := h
    obtain ⟨a1, a2⟩ := capPs_ok h2
    exact ⟨.cons (rptr_of h1) a1, fun p => by simp only [capPs, idsL, PV.ids, a2, Bool.and_self]⟩
def LKIs (ok : Nat → Prop) (w : World) : (k : LK) → k.ty → Value → Prop
  | .sc k, x, v => SKIs ok w k x v
  | .row _ s, l, v => SKIs ok w (.row s) l v
  | .ptr s, x, v => SKIs ok w (.ptr s) x v
  | .fnc f ss, x, v => ∃ cs : List Value, v = .func (.func f) #[] cs.toArray ∧ CapsIs ok w ss x cs
def LTIs (ok : Nat → Prop) (w : World) : (s : List LK) → LT s → List Value → Prop
  | [] => fun _ vs => vs = []
  | k :: r => match r with
    | [] => fun x vs => ∃ u, vs = [u] ∧ LKIs ok w k x u
    | k' :: r' => fun x vs => ∃ u us, vs = u :: us ∧ LKIs ok w k x.1 u ∧ LTIs ok w (k' :: r') x.2 us
def PKIs (ok : Nat → Prop) (w : World) : (p : PK) → p.ty → Value → Prop
  | .one l, x, v => LKIs ok w l x v
  | .agg ls, x, v => ∃ vs : List Value, v = .agg vs.toArray ∧ LTIs ok w ls x vs
def PTIs (ok : Nat → Prop) (w : World) : (s : List PK) → PT s → List Value → Prop
  | [] => fun _ vs => vs = []
  | k :: r => match r with
    | [] => fun x vs => ∃ u, vs = [u] ∧ PKIs ok w k x u
    | k' :: r' => fun x vs => ∃ u us, vs = u :: us ∧ PKIs ok w k x.1 u ∧ PTIs ok w (k' :: r') x.2 us
/-! ### results: rows of the call's own, and what they lead to -/
def RowNew (base : Nat) (Fz : Nat → Prop) (w : World) (T : TypeId) (s : List SK) (l : List (Tup s)) (v : Value) : Prop := ∃ xs, w.ownsRow base T s.length v l.length xs ∧ RowsIs Fz w s l xs
def LKNew (base : Nat) (Fz : Nat → Prop) (w : World) : (k : LK) → k.ty → Value → List Value → Prop
  | .sc k, x, v, rv => rv = [] ∧ SKIs Fz w k x v
  | .row T s, l, v, rv => rv = [v] ∧ RowNew base Fz w T s l v
  | .ptr _, _, _, _ => False
  | .fnc f ss, x, v, rv => rv = [] ∧ ∃ cs : List Value, v = .func (.func f) #[] cs.toArray ∧ CapsIs Fz w ss x cs
def LTNew (base : Nat) (Fz : Nat → Prop) (w : World) : (s : List LK) → LT s → List Value → List Value → Prop
  | [] => fun _ vs rv => vs = [] ∧ rv = []
  | k :: r => match r with
    | [] => fun x vs rv => ∃ u, vs = [u] ∧ LKNew base Fz w k x u rv
    | k' :: r' => fun x vs rv => ∃ u us r1 r2, vs = u :: us ∧ rv = r1 ++ r2 ∧ LKNew base Fz w k x.1 u r1 ∧ LTNew base Fz w (k' :: r') x.2 us r2
def PKNew (base : Nat) (Fz : Nat → Prop) (w : World) : (p : PK) → p.ty → Value → List Value → Prop
  | .one l, x, v, rv => LKNew base Fz w l x v rv
  | .agg ls, x, v, rv => ∃ vs : List Value, v = .agg vs.toArray ∧ LTNew base Fz w ls x vs rv
def PTNew (base : Nat) (Fz : Nat → Prop) (w : World) : (s : List PK) → PT s → List Value → List Value → Prop
  | [] => fun _ vs rv => vs = [] ∧ rv = []
  | k :: r => match r with
    | [] => fun x vs rv => ∃ u, vs = [u] ∧ PKNew base Fz w k x u rv
    | k' :: r' => fun x vs rv => ∃ u us r1 r2, vs = u :: us ∧ rv = r1 ++ r2 ∧ PKNew base Fz w k x.1 u r1 ∧ PTNew base Fz w (k' :: r') x.2 us r2
/-- Several results as one value. -/
def retV : List Value → Value
  | [v] => v
  | vs => .tuple vs.toArray
def Apart : List Value → Prop
  | [] => True
  | v :: r => (∀ u ∈ r, ∀ k, v.ownBlock = some k → u.ownBlock = some k → False) ∧ Apart r
structure Rets (R : List PK) (w w' : World) (x : PT R) (v : Value) : Prop where
  ex : ∃ vs rv Fz, v = retV vs ∧ PTNew w.heap.size Fz w' R x vs rv ∧ Apart rv ∧ (∀ u ∈ rv, ∀ k, u.ownBlock = some k → ¬ Fz k) ∧ ∀ k, Fz k → w.heap.size ≤ k ∧ k < w'.heap.size
/-- What a call of function f does, by a plain function. -/
def CallsOk (P : Program) (f : FuncId) (A R : List PK) (F : PT A → Option (PT R)) : Prop :=
  ∀ (x : PT A) (r : PT R) (w : World) (vals : List Value), F x = some r → PTIs (fun b => b < w.heap.size) w A x vals → GK w →
    Calls P f vals.toArray w fun e w' => ∃ v, e = .returned v ∧ Rets R w w' r v ∧ Below w.heap.size w w'
section
variable {w : World}
theorem SKIs.okle {ok ok' : Nat → Prop} (h : ∀ k, ok k → ok' k) {k : SK} {x : k.ty} {v : Value} (hx : SKIs ok w k x v) : SKIs ok' w k x v := SKIs.move (fun b hb => ⟨h b hb, rfl⟩) hx
theorem LKIs.le {ok ok' : Nat → Prop} (h : ∀ k, ok k → ok' k) {k : LK} {x : k.ty} {v : Value} (hx : LKIs ok w k x v) : LKIs ok' w k x v := by
  cases k with
  | fnc f ss =>
    obtain ⟨cs, rfl, hx⟩ := hx
    exact ⟨cs, rfl, CapsIs.move (fun b hb => ⟨h b hb, rfl⟩) hx⟩
  | _ => exact SKIs.okle h hx
theorem LTIs.le {ok ok' : Nat → Prop} (h : ∀ k, ok k → ok' k) : ∀ {s : List LK} {x : LT s} {vs : List Value}, LTIs ok w s x vs → LTIs ok' w s x vs
  | [], _, _, hx => hx
  | [k], x, vs, hx => by
    simp only [LTIs] at hx ⊢
    obtain ⟨u, rfl, hx⟩ := hx
    exact ⟨u, rfl, LKIs.le h hx⟩
  | k :: k' :: r, x, vs, hx => by
    simp only [LTIs] at hx ⊢
    obtain ⟨u, us, rfl, h1, h2⟩ := hx
    exact ⟨u, us, rfl, LKIs.le h h1, LTIs.le h h2⟩
theorem PKIs.le {ok ok' : Nat → Prop} (h : ∀ k, ok k → ok' k) {k : PK} {x : k.ty} {v : Value} (hx : PKIs ok w k x v) : PKIs ok' w k x v := by
  cases k with
  | one l => exact LKIs.le h hx
  | agg ls => obtain ⟨vs, rfl, hx⟩ := hx; exact ⟨vs, rfl, LTIs.le h hx⟩
theorem PTIs.le {ok ok' : Nat → Prop} (h : ∀ k, ok k → ok' k) : ∀ {s : List PK} {x : PT s} {vs : List Value}, PTIs ok w s x vs → PTIs ok' w s x vs
  | [], _, _, hx => hx
  | [k], x, vs, hx => by
    simp only [PTIs] at hx ⊢
    obtain ⟨u, rfl, hx⟩ := hx
    exact ⟨u, rfl, PKIs.le h hx⟩
  | k :: k' :: r, x, vs, hx => by
    simp only [PTIs] at hx ⊢
    obtain ⟨u, us, rfl, h1, h2⟩ := hx
    exact ⟨u, us, rfl, PKIs.le h h1, PTIs.le h h2⟩
end
/-! ### arguments out of a state -/
def unPtr (S : AS) (s : List SK) (x : PV) : Option (Tup s) := match x with
  | .rptr _ s' d off => bif Nat.beq off 0 then asTup s' s d else none
  | .ptr i off => match S.σ i with
    | .box _ cs => match unT S s ((cs.drop off).take s.length) with
      | some (y, _, l) => bif l.isEmpty then some y else none
      | none => none
    | _ => none
  | _ => none
def unSc (S : AS) (k : SK) (x : PV) : Option k.ty := match unK S k x with
  | some (y, _, l) => bif l.isEmpty then some y else none
  | none => none
def unCaps (S : AS) : (ss : List (List SK)) → List PV → Option (Tups ss)
  | [] => fun cs => match cs with
    | [] => some ()
    | _ => none
  | k :: r => match r with
    | [] => fun cs => match cs with
      | [c] => unPtr S k c
      | _ => none
    | k' :: r' => fun cs => match cs with
      | c :: cs => match unPtr S k c, unCaps S (k' :: r') cs with
        | some x, some y => some (x, y)
        | _, _ => none
      | [] => none
def unFn (S : AS) (f : Nat) (ss : List (List SK)) (x : PV) : Option (Tups ss) := match x with
  | .fn g caps => bif Nat.beq f g then unCaps S ss caps else none
  | _ => none
def unL (S : AS) (k : LK) (x : PV) : Option k.ty := match k with
  | .ptr s => unPtr S s x
  | .sc k => unSc S k x
  | .row _ s => match srcRow S s x with
    | some (l, _) => some l
    | none => none
  | .fnc f ss => unFn S f ss x
def unLs (S : AS) : (s : List LK) → List PV → Option (LT s)
  | [] => fun cs => match cs with
    | [] => some ()
    | _ => none
  | k :: r => match r with
    | [] => fun cs => match cs with
      | [c] => unL S k c
      | _ => none
    | k' :: r' => fun cs => match cs with
      | c :: cs => match unL S k c, unLs S (k' :: r') cs with
        | some x, some y => some (x, y)
        | _, _ => none
      | [] => none
def aggV : Value → Option (List PV)
  | .agg a => some (a.toList.map .v)
  | _ => none
def PV.parts : PV → Option (List PV)
  | .agg cs => some cs
  | .v x => aggV x
  | _ => none
theorem PV.parts_ok {m : Nm} {B0 : Nat} {w : World} {x : PV} {v : Value} {cs : List PV} (h : x.parts = some cs) (hx : RepV m B0 w x v) : ∃ vs : List Value, v = .agg vs.toArray ∧ RepVs m B0 w cs vs := by
  cases hx with
  | agg hx => cases h; exact ⟨_, rfl, hx⟩
  | v =>
    cases v with
    | agg a => cases h; exact ⟨a.toList, by simp, RepVs.exact _⟩
    | _ => cases h
  | _ => cases h
def unP (S : AS) (p : PK) (x : PV) : Option p.ty := match p with
  | .one l => unL S l x
  | .agg ls => match x.parts with
    | some cs => unLs S ls cs
    | none => none
def unPs (S : AS) : (s : List PK) → List PV → Option (PT s)
  | [] => fun cs => match cs with
    | [] => some ()
    | _ => none
  | k :: r => match r with
    | [] => fun cs => match cs with
      | [c] => unP S k c
      | _ => none
    | k' :: r' => fun cs => match cs with
      | c :: cs => match unP S k c, unPs S (k' :: r') cs with
        | some x, some y => some (x, y)
        | _, _ => none
      | [] => none
section
variable {w0 : Org} {N : Nat} {m : Nm} {S : AS} {a : Act} {w : World}
/-- What may be read: what nobody writes, and the state's own blocks. -/
def rd (m : Nm) (S : AS) : Nat → Prop := fun b => m.F b ∨ ∃ j, blkOf m j (S.σ j) b
theorem rd_lt (hr : Rep w0 N m S a w) {b : Nat} (h : rd m S b) : b < w.heap.size := h.elim (hr.heap.flt b) (fun ⟨_, h⟩ => (blk_lt hr.heap h).1)
theorem frz_ok (hr : Rep w0 N m S a w) {f : Bool} : Stays (okOf ⟨m.v, m.b, frz m []⟩ w0.heap.size f) (rd m S) w w := fun b hb => ⟨hb.1.elim (fun h => .inl h) (fun ⟨_, h, _⟩ => by cases h), rfl⟩
theorem ok_rd {f : Bool} : Stays (okOf m w0.heap.size f) (rd m S) w w := fun b hb => ⟨.inl hb.1, rfl⟩
theorem src_is (hr : Rep w0 N m S a w) {s : List SK} {x : PV} {v : Value} {l : List (Tup s)} {f : Bool} (h : srcRow S s x = some (l, f)) (hx : RepV m w0.heap.size w x v) : SKIs (rd m S) w (.row s) l v := by
  unfold srcRow at h
  split at h
  · split at h
    · rename_i l2 hl
      cases h
      obtain ⟨rfl, rfl⟩ := asRows_some hl
      cases hx with | row hx => exact SKIs.move ok_rd hx
    · cases h
  · rename_i j
    split at h
    · rename_i fr T s' l' hσ
      split at h
      · rename_i l2 hl
        cases h
        obtain ⟨rfl, rfl⟩ := asRows_some hl
        cases hx with | own hx =>
        have hb := hr.heap.blk j
        rw [hσ] at hb
        obtain ⟨xs, b1, b2, b3⟩ := hb
        rw [← hx]
        exact own_is b1 (RowsIs.move ok_rd b2) (fun k hk => .inr ⟨j, by rw [hσ]; exact hk⟩)
      · cases h
    · cases h
  · cases h
    cases hx
    simp only [SKIs]
    exact ⟨none, _, rfl, Nat.zero_le _, fun i x hx => by simp at hx⟩
  · cases h
theorem unPtr_ok (hr : Rep w0 N m S a w) {s : List SK} {x : PV} {v : Value} {y : Tup s} (h : unPtr S s x = some y) (hx : RepV m w0.heap.size w x v) : SKIs (rd m S) w (.ptr s) y v := by
  unfold unPtr at h
  split at h
  · rename_i fr s' d off
    rcases cond_some h with ⟨h0, hh⟩ | ⟨_, h2⟩
    · have := Nat.eq_of_beq_eq_true h0
      subst this
      obtain ⟨rfl, rfl⟩ := asTup_some hh
      cases hx with | rptr hx =>
      rw [Nat.add_zero]
      exact SKIs.move ok_rd hx
    · cases h2
  · rename_i i off
    split at h
    · rename_i T cs hσ
      split at h
      · rename_i y' f l hq
        rcases cond_some h with ⟨h0, hh⟩ | ⟨_, h2⟩
        · cases hh
          have : l = [] := by simpa using h0
          subst this
          cases hx
          have hb := hr.heap.blk i
          rw [hσ] at hb
          obtain ⟨_, _, vs, hvs, hh⟩ := hb
          have ht := unT_ok hr hq ((hvs.drop off).take s.length)
          simp only [SKIs]
          refine ⟨m.b i, off, _, rfl, .inr ⟨i, by rw [hσ]; rfl⟩, TupIs.len ht, fun j u hu => ?_, TupIs.move (frz_ok hr) ht⟩
          have hj : j < s.length := by
            have := (List.getElem?_eq_some_iff.1 hu).1
            rw [List.length_take] at this
            omega
          rw [List.getElem?_take_of_lt hj, List.getElem?_drop] at hu
          have := CellsAt.of_block hh _ u hu
          rwa [Nat.zero_add] at this
        · cases h2
      · cases h
    · cases h
  · cases h
theorem unSc_ok (hr : Rep w0 N m S a w) {k : SK} {x : PV} {v : Value} {y : k.ty} (h : unSc S k x = some y) (hx : RepV m w0.heap.size w x v) : SKIs (rd m S) w k y v := by
  unfold unSc at h
  split at h
  · rename_i y' f l hq
    rcases cond_some h with ⟨h0, hh⟩ | ⟨_, h2⟩
    · cases hh
      have : l = [] := by simpa using h0
      subst this
      exact SKIs.move (frz_ok hr) (unK_ok hr hq hx)
    · cases h2
  · cases h
theorem unCaps_ok (hr : Rep w0 N m S a w) : ∀ {s : List (List SK)} {cs : List PV} {vs : List Value} {y : Tups s}, unCaps S s cs = some y → RepVs m w0.heap.size w cs vs → CapsIs (rd m S) w s y vs
  | [], cs, vs, y, h, hx => by
    match cs, h, hx with
    | [], h, .nil => simp only [CapsIs]
    | _ :: _, h, _ => simp [unCaps] at h
  | [k], cs, vs, y, h, hx => by
    match cs, h, hx with
    | [], h, _ => simp [unCaps] at h
    | [c], h, .cons hx .nil => simp only [unCaps] at h; simp only [CapsIs]; exact ⟨_, rfl, unPtr_ok hr h hx⟩
    | _ :: _ :: _, h, _ => simp [unCaps] at h
  | k :: k' :: r, cs, vs, y, h, hx => by
    match cs, h, hx with
    | [], h, _ => simp [unCaps] at h
    | c :: cs, h, .cons hx hs =>
      simp only [unCaps] at h
      split at h
      · rename_i x1 y1 h1 h2
        cases h
        simp only [CapsIs]
        exact ⟨_, _, rfl, unPtr_ok hr h1 hx, unCaps_ok hr h2 hs⟩
      · cases h
theorem unFn_ok (hr : Rep w0 N m S a w) {f : Nat} {ss : List (List SK)} {x : PV} {v : Value} {y : Tups ss} (h : unFn S f ss x = some y) (hx : RepV m w0.heap.size w x v) : ∃ cs : List Value, v = .func (.func f) #[] cs.toArray ∧ CapsIs (rd m S) w ss y cs := by
  unfold unFn at h
  split at h
  · rename_i g caps
    rcases cond_some h with ⟨h0, hh⟩ | ⟨_, h2⟩
    · have := Nat.eq_of_beq_eq_true h0
      subst this
      cases hx with | fn hx =>
      exact ⟨_, rfl, unCaps_ok hr hh hx⟩
    · cases h2
  · cases h
theorem unL_ok (hr : Rep w0 N m S a w) {k : LK} {x : PV} {v : Value} {y : k.ty} (h : unL S k x = some y) (hx : RepV m w0.heap.size w x v) : LKIs (rd m S) w k y v := by
  cases k with
  | ptr s => exact unPtr_ok hr h hx
  | sc k => exact unSc_ok hr h hx
  | fnc f ss => exact unFn_ok hr h hx
  | row T s =>
    simp only [unL] at h
    split at h
    · rename_i l f hs
      cases h
      exact src_is hr hs hx
    · cases h
theorem unLs_ok (hr : Rep w0 N m S a w) : ∀ {s : List LK} {cs : List PV} {vs : List Value} {y : LT s}, unLs S s cs = some y → RepVs m w0.heap.size w cs vs → LTIs (rd m S) w s y vs
  | [], cs, vs, y, h, hx => by
    match cs, h, hx with
    | [], h, .nil => simp only [LTIs]
    | _ :: _, h, _ => simp [unLs] at h
  | [k], cs, vs, y, h, hx => by
    match cs, h, hx with
    | [], h, _ => simp [unLs] at h
    | [c], h, .cons hx .nil => simp only [unLs] at h; simp only [LTIs]; exact ⟨_, rfl, unL_ok hr h hx⟩
    | _ :: _ :: _, h, _ => simp [unLs] at h
  | k :: k' :: r, cs, vs, y, h, hx => by
    match cs, h, hx with
    | [], h, _ => simp [unLs] at h
    | c :: cs, h, .cons hx hs =>
      simp only [unLs] at h
      split at h
      · rename_i x1 y1 h1 h2
        cases h
        simp only [LTIs]
        exact ⟨_, _, rfl, unL_ok hr h1 hx, unLs_ok hr h2 hs⟩
      · cases h
theorem unP_ok (hr : Rep w0 N m S a w) {p : PK} {x : PV} {v : Value} {y : p.ty} (h : unP S p x = some y) (hx : RepV m w0.heap.size w x v) : PKIs (rd m S) w p y v := by
  cases p with
  | one l => exact unL_ok hr h hx
  | agg ls =>
    simp only [unP] at h
    split at h
    · rename_i cs hp
      obtain ⟨vs, rfl, hvs⟩ := PV.parts_ok hp hx
      exact ⟨vs, rfl, unLs_ok hr h hvs⟩
    · cases h
theorem unPs_ok (hr : Rep w0 N m S a w) : ∀ {s : List PK} {cs : List PV} {vs : List Value} {y : PT s}, unPs S s cs = some y → RepVs m w0.heap.size w cs vs → PTIs (rd m S) w s y vs
  | [], cs, vs, y, h, hx => by
    match cs, h, hx with
    | [], h, .nil => simp only [PTIs]
    | _ :: _, h, _ => simp [unPs] at h
  | [k], cs, vs, y, h, hx => by
    match cs, h, hx with
    | [], h, _ => simp [unPs] at h
    | [c], h, .cons hx .nil => simp only [unPs] at h; simp only [PTIs]; exact ⟨_, rfl, unP_ok hr h hx⟩
    | _ :: _ :: _, h, _ => simp [unPs] at h
  | k :: k' :: r, cs, vs, y, h, hx => by
    match cs, h, hx with
    | [], h, _ => simp [unPs] at h
    | c :: cs, h, .cons hx hs =>
      simp only [unPs] at h
      split at h
      · rename_i x1 y1 h1 h2
        cases h
        simp only [PTIs]
        exact ⟨_, _, rfl, unP_ok hr h1 hx, unPs_ok hr h2 hs⟩
      · cases h
end
end Go.Proofs.YtaknikdbnfmlfaaDoor.Ex
