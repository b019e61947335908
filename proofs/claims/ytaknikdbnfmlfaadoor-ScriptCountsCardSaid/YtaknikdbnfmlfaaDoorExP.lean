/- An executor of translated code on abstract states, sixteenth part: what a loop carries. -/
import Derived.Test.YtaknikdbnfmlfaaDoorExO
namespace Go.Proofs.YtaknikdbnfmlfaaDoor.Ex
open Go Go.RowKit
set_option linter.unusedVariables false
set_option linter.unusedSimpArgs false
inductive TL : Type where
  | sc (k : SK) | own (T : TypeId) (s : List SK) | ro (s : List SK)
inductive TK : Type where
  | one (l : TL) | agg (ls : List TL) | box (T : TypeId) (ls : List TL) | fnc (f : Nat) | fnp (f : Nat) (ss : List (List SK)) | mset | obj (n : Nat)
def TL.ty : TL → Type
  | .sc k => k.ty
  | .own _ s => List (Tup s)
  | .ro s => List (Tup s)
def TLs : List TL → Type
  | [] => Unit
  | k :: r => match r with
    | [] => k.ty
    | k' :: r' => k.ty × TLs (k' :: r')
def TK.ty : TK → Type
  | .one l => l.ty
  | .agg ls => TLs ls
  | .box _ ls => TLs ls
  | .fnc _ => Unit
  | .fnp _ ss => Tups ss
  | .mset => List Int
  | .obj n => OT n
def TT : List (Nat × TK) → Type
  | [] => Unit
  | k :: r => match r with
    | [] => k.2.ty
    | k' :: r' => k.2.ty × TT (k' :: r')
/-! ### a state made of what is carried -/
def mkL (id : Nat) : (k : TL) → k.ty → PV × List ABlk
  | .sc k, x => (cellK false k x, [])
  | .own T s, l => (.own id, [.own true T s l])
  | .ro s, l => (.row false s l, [])
def mkLs (id : Nat) : (s : List TL) → TLs s → List PV × List ABlk
  | [] => fun _ => ([], [])
  | k :: r => match r with
    | [] => fun x => ([(mkL id k x).1], (mkL id k x).2)
    | k' :: r' => fun x => ((mkL id k x.1).1 :: (mkLs (id + (mkL id k x.1).2.length) (k' :: r') x.2).1, (mkL id k x.1).2 ++ (mkLs (id + (mkL id k x.1).2.length) (k' :: r') x.2).2)
def mkK (id : Nat) : (k : TK) → k.ty → PV × List ABlk
  | .one l, x => mkL id l x
  | .agg ls, x => (.agg (mkLs id ls x).1, (mkLs id ls x).2)
  | .box T ls, x => (.ptr id 0, .box T (mkLs (id + 1) ls x).1 :: (mkLs (id + 1) ls x).2)
  | .fnc f, _ => (.fn f [], [])
  | .fnp f ss, x => (.fn f (capPs false ss x), [])
  | .mset, l => (.mp id, [.mset l])
  | .obj n, x => (.ptr id 0, [.obj n x (id + 1), .no])
def mkT (id : Nat) : (s : List (Nat × TK)) → TT s → List (Nat × PV) × List ABlk
  | [] => fun _ => ([], [])
  | k :: r => match r with
    | [] => fun x => ([(k.1, (mkK id k.2 x).1)], (mkK id k.2 x).2)
    | k' :: r' => fun x => ((k.1, (mkK id k.2 x.1).1) :: (mkT (id + (mkK id k.2 x.1).2.length) (k' :: r') x.2).1, (mkK id k.2 x.1).2 ++ (mkT (id + (mkK id k.2 x.1).2.length) (k' :: r') x.2).2)
def slotOf : List (Nat × PV) → Nat → PV
  | [], _ => .un
  | e :: r, t => bif Nat.beq t e.1 then e.2 else slotOf r t
def mkS (t : List (Nat × TK)) (x : TT t) : AS := ⟨slotOf (mkT 0 t x).1, updσ (fun _ => .no) (numb 0 (mkT 0 t x).2)⟩
def mkN (t : List (Nat × TK)) (x : TT t) : Nat := (mkT 0 t x).2.length
/-! ### what is carried, out of a state -/
def nilV : Value → Bool
  | .slice none n c => Nat.beq n 0 && Nat.beq c 0
  | _ => false
def deOwn (S : AS) (T : TypeId) (s : List SK) (x : PV) : Option (List (Tup s) × List (Option Nat)) := match x with
  | .own i => match S.σ i with
    | .own fr T' s' l => bif Nat.beq T T' && (fr || s'.all flatK) then match asRows s' s l with
        | some l' => some (l', [some i])
        | none => none
      else none
    | _ => none
  | .v v => bif nilV v then some ([], [none]) else none
  | _ => none
def deRo (s : List SK) (x : PV) : Option (List (Tup s)) := match x with
  | .row _ s' l => asRows s' s l
  | .v v => bif nilV v then some [] else none
  | _ => none
def deL (S : AS) (k : TL) (x : PV) : Option (k.ty × List (Option Nat)) := match k with
  | .sc k => match unSc S k x with
    | some y => some (y, [])
    | none => none
  | .own T s => deOwn S T s x
  | .ro s => match deRo s x with
    | some y => some (y, [])
    | none => none
def deLs (S : AS) : (s : List TL) → List PV → Option (TLs s × List (Option Nat))
  | [] => fun cs => match cs with
    | [] => some ((), [])
    | _ => none
  | k :: r => match r with
    | [] => fun cs => match cs with
      | [c] => deL S k c
      | _ => none
    | k' :: r' => fun cs => match cs with
      | c :: cs => match deL S k c with
        | some (x, i) => match deLs S (k' :: r') cs with
          | some (y, j) => some ((x, y), i ++ j)
          | none => none
        | none => none
      | [] => none
/-- What a function value reads, if nobody writes it. -/
def roPtr (s : List SK) (x : PV) : Option (Tup s) := match x with
  | .rptr _ s' d off => bif Nat.beq off 0 then asTup s' s d else none
  | _ => none
def roCaps : (ss : List (List SK)) → List PV → Option (Tups ss)
  | [] => fun cs => match cs with
    | [] => some ()
    | _ => none
  | k :: r => match r with
    | [] => fun cs => match cs with
      | [c] => roPtr k c
      | _ => none
    | k' :: r' => fun cs => match cs with
      | c :: cs => match roPtr k c, roCaps (k' :: r') cs with
        | some x, some y => some (x, y)
        | _, _ => none
      | [] => none
def roFn (S : AS) (f : Nat) (ss : List (List SK)) (x : PV) : Option (Tups ss) := match x with
  | .fn g caps => bif Nat.beq f g then roCaps ss caps else none
  | _ => none
def asObj (n n' : Nat) (x : OT n) : Option (OT n') := if h : n = n' then some (h ▸ x) else none
theorem asObj_some {n n' : Nat} {x : OT n} {y : OT n'} (h : asObj n n' x = some y) : ∃ e : n = n', y = e ▸ x := by
  unfold asObj at h
  split at h
  · rename_i he
    cases h
    exact ⟨he, rfl⟩
  · cases h
def deK (S : AS) (k : TK) (x : PV) : Option (k.ty × List (Option Nat)) := match k with
  | .one l => deL S l x
  | .agg ls => match x.parts with
    | some cs => deLs S ls cs
    | none => none
  | .box T ls => match x with
    | .ptr i off => match S.σ i with
      | .box T' cs => bif Nat.beq T T' && Nat.beq off 0 then match deLs S ls cs with
          | some (y, j) => some (y, some i :: j)
          | none => none
        else none
      | _ => none
    | _ => none
  | .fnc f => match x with
    | .fn g caps => bif Nat.beq f g && caps.isEmpty then some ((), []) else none
    | _ => none
  | .fnp f ss => match roFn S f ss x with
    | some y => some (y, [])
    | none => none
  | .mset => match x with
    | .mp i => match S.σ i with
      | .mset l => some (l, [some i])
      | _ => none
    | _ => none
  | .obj n => match x with
    | .ptr i off => match S.σ i with
      | .obj n' y j => bif Nat.beq off 0 then match asObj n' n y with
          | some y => some (y, [some i, some j])
          | none => none
        else none
      | _ => none
    | _ => none
def deT (S : AS) : (s : List (Nat × TK)) → Option (TT s × List (Option Nat))
  | [] => some ((), [])
  | k :: r => match r with
    | [] => deK S k.2 (S.fr k.1)
    | k' :: r' => match deK S k.2 (S.fr k.1) with
      | some (x, i) => match deT S (k' :: r') with
        | some (y, j) => some ((x, y), i ++ j)
        | none => none
      | none => none
def memO (n : Nat) : List (Option Nat) → Bool
  | [] => false
  | some m :: r => Nat.beq n m || memO n r
  | none :: r => memO n r
def nodupO : List (Option Nat) → Bool
  | [] => true
  | some n :: r => !memO n r && nodupO r
  | none :: r => nodupO r
/-- What is carried, if each block is carried once. -/
def deS (S : AS) (t : List (Nat × TK)) : Option (TT t) := match deT S t with
  | some (x, ids) => bif nodupO ids then some x else none
  | none => none
/-! ### soundness -/
structure Old (m m' : Nm) (id : Nat) (ids : List (Option Nat)) : Prop where
  s : ∀ i u, ids[i]? = some (some u) → m'.v (id + i) = m.v u ∧ m'.b (id + i) = m.b u
  n : ∀ i, ids[i]? = some none → m'.v (id + i) = .slice none 0 0
theorem Old.left {m m' : Nm} {id : Nat} {r1 r2 : List (Option Nat)} (h : Old m m' id (r1 ++ r2)) : Old m m' id r1 := ⟨fun i u hu => h.s i u (by rw [List.getElem?_append_left (List.getElem?_eq_some_iff.1 hu).1]; exact hu), fun i hu => h.n i (by rw [List.getElem?_append_left (List.getElem?_eq_some_iff.1 hu).1]; exact hu)⟩
theorem Old.right {m m' : Nm} {id k : Nat} {r1 r2 : List (Option Nat)} (h : Old m m' id (r1 ++ r2)) (hn : r1.length = k) : Old m m' (id + k) r2 := ⟨fun i u hu => by
  have := h.s (k + i) u (by rw [List.getElem?_append_right (by omega)]; rw [show k + i - r1.length = i by omega]; exact hu)
  rwa [← Nat.add_assoc] at this, fun i hu => by
  have := h.n (k + i) (by rw [List.getElem?_append_right (by omega)]; rw [show k + i - r1.length = i by omega]; exact hu)
  rwa [← Nat.add_assoc] at this⟩
structure Kept (m m' : Nm) (B0 : Nat) (w : World) (S : AS) (id : Nat) (ids : List (Option Nat)) (bs : List ABlk) : Prop where
  len : bs.length = ids.length
  blk : ∀ i b, bs[i]? = some b → BlkIs m' B0 w (id + i) b ∧ ∀ k, blkOf m' (id + i) b k → ∃ u, ids[i]? = some (some u) ∧ blkOf m u (S.σ u) k
theorem Kept.nil {m m' : Nm} {B0 : Nat} {w : World} {S : AS} {id : Nat} : Kept m m' B0 w S id [] [] := ⟨rfl, fun i b h => by simp at h⟩
theorem Kept.app {m m' : Nm} {B0 : Nat} {w : World} {S : AS} {id : Nat} {r1 r2 : List (Option Nat)} {b1 b2 : List ABlk} (h1 : Kept m m' B0 w S id r1 b1) (h2 : Kept m m' B0 w S (id + b1.length) r2 b2) : Kept m m' B0 w S id (r1 ++ r2) (b1 ++ b2) := by
  refine ⟨by simp [h1.len, h2.len], fun i b hb => ?_⟩
  by_cases hi : i < b1.length
  · rw [List.getElem?_append_left hi] at hb
    rw [List.getElem?_append_left (by rw [← h1.len]; exact hi)]
    exact h1.blk i b hb
  · rw [List.getElem?_append_right (by omega)] at hb
    rw [List.getElem?_append_right (by rw [← h1.len]; omega), ← h1.len]
    have := h2.blk _ b hb
    rwa [show id + b1.length + (i - b1.length) = id + i by omega] at this
theorem okOf_same {m m' : Nm} (hF : m'.F = m.F) {B0 : Nat} {fr : Bool} {w : World} : Stays (okOf m B0 fr) (okOf m' B0 fr) w w := fun b hb => ⟨by unfold okOf at *; rw [hF]; exact hb, rfl⟩
section
variable {w0 : Org} {N : Nat} {m m' : Nm} {S : AS} {a : Act} {w : World}
theorem nilV_eq {v : Value} (h : nilV v = true) : v = .slice none 0 0 := by
  unfold nilV at h
  split at h
  · rw [Bool.and_eq_true] at h
    rw [Nat.eq_of_beq_eq_true h.1, Nat.eq_of_beq_eq_true h.2]
  · cases h
theorem deOwn_ok (hr : Rep w0 N m S a w) (hF : m'.F = m.F) {T : TypeId} {s : List SK} {x : PV} {v : Value} {y : List (Tup s)} {ids : List (Option Nat)} {id : Nat} (h : deOwn S T s x = some (y, ids)) (hx : RepV m w0.heap.size w x v) (ho : Old m m' id ids) :
    RepV m' w0.heap.size w (.own id) v ∧ Kept m m' w0.heap.size w S id ids [.own true T s y] := by
  unfold deOwn at h
  split at h
  · rename_i i
    split at h
    · rename_i fr T' s' l hσ
      rcases cond_some h with ⟨hc, hh⟩ | ⟨_, h2⟩
      · clear h
        rw [Bool.and_eq_true] at hc
        have hT := Nat.eq_of_beq_eq_true hc.1
        subst hT
        split at hh
        · rename_i l' hl
          cases hh
          obtain ⟨rfl, rfl⟩ := asRows_some hl
          cases hx with | own hx =>
          have hn := (ho.s 0 i rfl).1
          rw [Nat.add_zero] at hn
          have hb := hr.heap.blk i
          rw [hσ] at hb
          obtain ⟨xs, b1, b2, b3⟩ := hb
          refine ⟨.own (hn.trans hx), rfl, fun j b hj => ?_⟩
          cases j with
          | succ j => simp at hj
          | zero =>
            simp only [List.getElem?_cons_zero, Option.some.injEq] at hj
            subst hj
            rw [Nat.add_zero]
            refine ⟨⟨xs, by rw [hn]; exact b1, ?_, fun k hk => by rw [hn] at hk; rw [hF]; exact b3 k hk⟩, fun k hk => ⟨i, rfl, ?_⟩⟩
            · intro q z hq
              have hz := b2 q z hq
              cases hfr : fr with
              | true => rw [hfr] at hz; exact TupIs.move (okOf_same hF) hz
              | false =>
                have hfl : s'.all flatK = true := by have := hc.2; rw [hfr] at this; simpa using this
                exact TupIs.flat hfl hz
            · rw [hσ]
              have : (m'.v id).ownBlock = some k := hk
              rw [hn] at this
              exact this
        · cases hh
      · cases h2
    · cases h
  · rename_i v'
    rcases cond_some h with ⟨hc, hh⟩ | ⟨_, h2⟩
    · cases hh
      have := nilV_eq hc
      subst this
      cases hx
      have hn := ho.n 0 rfl
      rw [Nat.add_zero] at hn
      refine ⟨.own hn, rfl, fun j b hj => ?_⟩
      cases j with
      | succ j => simp at hj
      | zero =>
        simp only [List.getElem?_cons_zero, Option.some.injEq] at hj
        subst hj
        rw [Nat.add_zero]
        refine ⟨⟨[], by rw [hn]; exact World.ownsRow_nil _ _ _ _, RowsIs.nil, fun k hk => by rw [hn] at hk; cases hk⟩, fun k hk => ?_⟩
        have : (m'.v id).ownBlock = some k := hk
        rw [hn] at this
        cases this
    · cases h2
  · cases h
theorem unSc_v {k : SK} {x : PV} {y : k.ty} (h : unSc S k x = some y) : (∀ fr s l, x ≠ .row fr s l) → True := fun _ => trivial
theorem deL_ok (hr : Rep w0 N m S a w) (hF : m'.F = m.F) {k : TL} {x : PV} {v : Value} {y : k.ty} {ids : List (Option Nat)} {id : Nat} (h : deL S k x = some (y, ids)) (hx : RepV m w0.heap.size w x v) (ho : Old m m' id ids) :
    RepV m' w0.heap.size w (mkL id k y).1 v ∧ Kept m m' w0.heap.size w S id ids (mkL id k y).2 := by
  cases k with
  | sc k =>
    simp only [deL] at h
    split at h
    · rename_i y' hq
      cases h
      refine ⟨cellK_ok ?_, Kept.nil⟩
      unfold unSc at hq
      split at hq
      · rename_i y2 f l hq'
        rcases cond_some hq with ⟨h0, hh⟩ | ⟨_, h2⟩
        · cases hh
          have : l = [] := by simpa using h0
          subst this
          refine SKIs.move (fun b hb => ⟨?_, rfl⟩) (unK_ok hr hq' hx)
          exact ⟨by rw [hF]; exact hb.1.elim (fun h => h) (fun ⟨_, h, _⟩ => by cases h), fun h => by cases h⟩
        · cases h2
      · cases hq
    · cases h
  | own T s => exact deOwn_ok hr hF h hx ho
  | ro s =>
    simp only [deL] at h
    split at h
    · rename_i y' hq
      cases h
      refine ⟨?_, Kept.nil⟩
      unfold deRo at hq
      split at hq
      · obtain ⟨rfl, rfl⟩ := asRows_some hq
        cases hx with | row hx =>
        exact .row (SKIs.move (fun b hb => ⟨⟨by rw [hF]; exact hb.1, fun h => by cases h⟩, rfl⟩) hx)
      · rcases cond_some hq with ⟨hc, hh⟩ | ⟨_, h2⟩
        · cases hh
          have := nilV_eq hc
          subst this
          cases hx
          refine .row ?_
          simp only [SKIs]
          exact ⟨none, 0, rfl, Nat.zero_le _, fun i x hx => by simp at hx⟩
        · cases h2
      · cases hq
    · cases h
theorem deLs_ok (hr : Rep w0 N m S a w) (hF : m'.F = m.F) : ∀ {s : List TL} {cs : List PV} {vs : List Value} {y : TLs s} {ids : List (Option Nat)} {id : Nat}, deLs S s cs = some (y, ids) → RepVs m w0.heap.size w cs vs → Old m m' id ids →
    RepVs m' w0.heap.size w (mkLs id s y).1 vs ∧ Kept m m' w0.heap.size w S id ids (mkLs id s y).2
  | [], cs, vs, y, ids, id, h, hx, ho => by
    match cs, h, hx with
    | [], h, .nil => simp only [deLs] at h; cases h; simp only [mkLs]; exact ⟨.nil, Kept.nil⟩
    | _ :: _, h, _ => simp [deLs] at h
  | [k], cs, vs, y, ids, id, h, hx, ho => by
    match cs, h, hx with
    | [], h, _ => simp [deLs] at h
    | [c], h, .cons hx .nil =>
      simp only [deLs] at h
      obtain ⟨h1, h2⟩ := deL_ok hr hF h hx ho
      simp only [mkLs]
      exact ⟨.cons h1 .nil, h2⟩
    | _ :: _ :: _, h, _ => simp [deLs] at h
  | k :: k' :: r, cs, vs, y, ids, id, h, hx, ho => by
    match cs, h, hx with
    | [], h, _ => simp [deLs] at h
    | c :: cs, h, .cons hx hs =>
      simp only [deLs] at h
      split at h
      · rename_i x1 i1 h1
        split at h
        · rename_i y1 j1 h2
          cases h
          obtain ⟨a1, a2⟩ := deL_ok hr hF h1 hx ho.left
          obtain ⟨a3, a4⟩ := deLs_ok hr hF h2 hs (id := id + (mkL id k x1).2.length) (ho.right a2.len.symm)
          simp only [mkLs]
          exact ⟨.cons a1 a3, a2.app a4⟩
        · cases h
      · cases h
theorem roPtr_ok {m : Nm} {B0 : Nat} {w : World} {s : List SK} {x : PV} {v : Value} {y : Tup s} (h : roPtr s x = some y) (hx : RepV m B0 w x v) : SKIs (okOf m B0 false) w (.ptr s) y v := by
  unfold roPtr at h
  split at h
  · rename_i fr s' d off
    rcases cond_some h with ⟨h0, hh⟩ | ⟨_, h2⟩
    · have := Nat.eq_of_beq_eq_true h0
      subst this
      obtain ⟨rfl, rfl⟩ := asTup_some hh
      cases hx with | rptr hx =>
      rw [Nat.add_zero]
      exact SKIs.move (fun b hb => ⟨⟨hb.1, fun h => by cases h⟩, rfl⟩) hx
    · cases h2
  · cases h
theorem roCaps_ok {m : Nm} {B0 : Nat} {w : World} : ∀ {s : List (List SK)} {cs : List PV} {vs : List Value} {y : Tups s}, roCaps s cs = some y → RepVs m B0 w cs vs → CapsIs (okOf m B0 false) w s y vs
  | [], cs, vs, y, h, hx => by
    match cs, h, hx with
    | [], h, .nil => simp only [CapsIs]
    | _ :: _, h, _ => simp [roCaps] at h
  | [k], cs, vs, y, h, hx => by
    match cs, h, hx with
    | [], h, _ => simp [roCaps] at h
    | [c], h, .cons hx .nil => simp only [roCaps] at h; simp only [CapsIs]; exact ⟨_, rfl, roPtr_ok h hx⟩
    | _ :: _ :: _, h, _ => simp [roCaps] at h
  | k :: k' :: r, cs, vs, y, h, hx => by
    match cs, h, hx with
    | [], h, _ => simp [roCaps] at h
    | c :: cs, h, .cons hx hs =>
      simp only [roCaps] at h
      split at h
      · rename_i x1 y1 h1 h2
        cases h
        simp only [CapsIs]
        exact ⟨_, _, rfl, roPtr_ok h1 hx, roCaps_ok h2 hs⟩
      · cases h
theorem roFn_ok {m : Nm} {B0 : Nat} {w : World} {f : Nat} {ss : List (List SK)} {x : PV} {v : Value} {y : Tups ss} (h : roFn S f ss x = some y) (hx : RepV m B0 w x v) : ∃ cs : List Value, v = .func (.func f) #[] cs.toArray ∧ CapsIs (okOf m B0 false) w ss y cs := by
  unfold roFn at h
  split at h
  · rename_i g caps
    rcases cond_some h with ⟨h0, hh⟩ | ⟨_, h2⟩
    · have := Nat.eq_of_beq_eq_true h0
      subst this
      cases hx with | fn hx =>
      exact ⟨_, rfl, roCaps_ok hh hx⟩
    · cases h2
  · cases h
theorem deK_ok (hr : Rep w0 N m S a w) (hF : m'.F = m.F) {k : TK} {x : PV} {v : Value} {y : k.ty} {ids : List (Option Nat)} {id : Nat} (h : deK S k x = some (y, ids)) (hx : RepV m w0.heap.size w x v) (ho : Old m m' id ids) :
    RepV m' w0.heap.size w (mkK id k y).1 v ∧ Kept m m' w0.heap.size w S id ids (mkK id k y).2 := by
  cases k with
  | one l => exact deL_ok hr hF h hx ho
  | agg ls =>
    simp only [deK] at h
    split at h
    · rename_i cs hp
      obtain ⟨vs, rfl, hvs⟩ := PV.parts_ok hp hx
      obtain ⟨h1, h2⟩ := deLs_ok hr hF h hvs ho
      exact ⟨.agg h1, h2⟩
    · cases h
  | box T ls =>
    simp only [deK] at h
    split at h
    · rename_i i off
      split at h
      · rename_i T' cs hσ
        rcases cond_some h with ⟨hc, hh⟩ | ⟨_, h2⟩
        · clear h
          rw [Bool.and_eq_true] at hc
          have e1 := Nat.eq_of_beq_eq_true hc.1
          have e2 := Nat.eq_of_beq_eq_true hc.2
          subst e1
          subst e2
          split at hh
          · rename_i y' j hq
            cases hh
            cases hx
            have hn := (ho.s 0 i rfl).2
            rw [Nat.add_zero] at hn
            have hb := hr.heap.blk i
            rw [hσ] at hb
            obtain ⟨b1, b2, vs, b3, b4⟩ := hb
            have ho' : Old m m' (id + 1) j := Old.right (r1 := [some i]) (by simpa using ho) rfl
            obtain ⟨c1, c2⟩ := deLs_ok hr hF hq b3 ho'
            refine ⟨?_, ?_⟩
            · show RepV m' _ w (.ptr id 0) _
              rw [← hn]
              exact .ptr
            · show Kept m m' _ w S id ([some i] ++ j) ([ABlk.box T (mkLs (id + 1) ls y).1] ++ (mkLs (id + 1) ls y).2)
              refine Kept.app ⟨rfl, fun q b hq' => ?_⟩ c2
              cases q with
              | succ q => simp at hq'
              | zero =>
                simp only [List.getElem?_cons_zero, Option.some.injEq] at hq'
                subst hq'
                rw [Nat.add_zero]
                refine ⟨⟨by rw [hn]; exact b1, by rw [hn, hF]; exact b2, vs, c1, by rw [hn]; exact b4⟩, fun k hk => ⟨i, rfl, ?_⟩⟩
                rw [hσ]
                have : k = m'.b id := hk
                rw [hn] at this
                exact this
          · cases hh
        · cases h2
      · cases h
    · cases h
  | fnc f =>
    simp only [deK] at h
    split at h
    · rename_i g caps
      rcases cond_some h with ⟨hc, hh⟩ | ⟨_, h2⟩
      · cases hh
        rw [Bool.and_eq_true] at hc
        have e1 := Nat.eq_of_beq_eq_true hc.1
        subst e1
        have : caps = [] := by simpa using hc.2
        subst this
        cases hx with | fn hx =>
        cases hx
        exact ⟨.fn .nil, Kept.nil⟩
      · cases h2
    · cases h
  | fnp f ss =>
    simp only [deK] at h
    split at h
    · rename_i y' hq
      cases h
      obtain ⟨cs, rfl, hc⟩ := roFn_ok hq hx
      exact ⟨.fn (capPs_ok (CapsIs.move (fun b hb => ⟨⟨by rw [hF]; exact hb.1, fun h => by cases h⟩, rfl⟩) hc)).1, Kept.nil⟩
    · cases h
  | mset =>
    simp only [deK] at h
    split at h
    · rename_i i
      split at h
      · rename_i l hσ
        cases h
        cases hx
        have hn := (ho.s 0 i rfl).2
        rw [Nat.add_zero] at hn
        have hb := hr.heap.blk i
        rw [hσ] at hb
        obtain ⟨b1, b2, es, cl, b3, b4⟩ := hb
        refine ⟨by show RepV m' _ w (.mp id) _; rw [← hn]; exact .mp, rfl, fun q b hq' => ?_⟩
        cases q with
        | succ q => simp [mkK] at hq'
        | zero =>
          simp only [mkK, List.getElem?_cons_zero, Option.some.injEq] at hq'
          subst hq'
          rw [Nat.add_zero]
          refine ⟨⟨by rw [hn]; exact b1, by rw [hn, hF]; exact b2, es, cl, by rw [hn]; exact b3, b4⟩, fun k hk => ⟨i, rfl, ?_⟩⟩
          rw [hσ]
          have : k = m'.b id := hk
          rw [hn] at this
          exact this
      · cases h
    · cases h
  | obj n =>
    simp only [deK] at h
    split at h
    · rename_i i off
      split at h
      · rename_i n' y' j hσ
        rcases cond_some h with ⟨hc, hh⟩ | ⟨_, h2⟩
        · have := Nat.eq_of_beq_eq_true hc
          subst this
          split at hh
          · rename_i y2 hy
            cases hh
            obtain ⟨rfl, rfl⟩ := asObj_some hy
            cases hx
            have hn := (ho.s 0 i rfl).2
            have hv := (ho.s 1 j rfl).1
            rw [Nat.add_zero] at hn
            have hb := hr.heap.blk i
            rw [hσ] at hb
            obtain ⟨b1, b2⟩ := hb
            refine ⟨by show RepV m' _ w (.ptr id 0) _; rw [← hn]; exact .ptr, rfl, fun q b hq' => ?_⟩
            cases q with
            | succ q =>
              cases q with
              | succ q => simp [mkK] at hq'
              | zero =>
                simp [mkK] at hq'
                subst hq'
                exact ⟨trivial, fun k hk => hk.elim⟩
            | zero =>
              simp only [mkK, List.getElem?_cons_zero, Option.some.injEq] at hq'
              subst hq'
              rw [Nat.add_zero]
              refine ⟨⟨by rw [hv, hF]; exact b1, by rw [hv, hF, hn]; exact b2⟩, fun k hk => ⟨i, rfl, ?_⟩⟩
              rw [hσ]
              have : fpV (m'.v (id + 1)) k := hk
              rw [hv] at this
              exact this
          · cases hh
        · cases h2
      · cases h
    · cases h
theorem deT_ok (hr : Rep w0 N m S a w) (hF : m'.F = m.F) : ∀ {s : List (Nat × TK)} {y : TT s} {ids : List (Option Nat)} {id : Nat}, deT S s = some (y, ids) → Old m m' id ids →
    (∀ t, RepV m' w0.heap.size w (slotOf (mkT id s y).1 t) (a.tmps.getD t undef)) ∧ Kept m m' w0.heap.size w S id ids (mkT id s y).2
  | [], y, ids, id, h, ho => by
    simp only [deT] at h
    cases h
    simp only [mkT]
    exact ⟨fun t => .un, Kept.nil⟩
  | [k], y, ids, id, h, ho => by
    simp only [deT] at h
    obtain ⟨h1, h2⟩ := deK_ok hr hF h (hr.get k.1) ho
    simp only [mkT]
    refine ⟨fun t => ?_, h2⟩
    show RepV m' _ w (bif Nat.beq t k.1 then (mkK id k.2 y).1 else .un) _
    cases hb : Nat.beq t k.1 with
    | true => rw [Nat.eq_of_beq_eq_true hb]; exact h1
    | false => exact .un
  | k :: k' :: r, y, ids, id, h, ho => by
    simp only [deT] at h
    split at h
    · rename_i x1 i1 h1
      split at h
      · rename_i y1 j1 h2
        cases h
        obtain ⟨a1, a2⟩ := deK_ok hr hF h1 (hr.get k.1) ho.left
        obtain ⟨a3, a4⟩ := deT_ok hr hF h2 (id := id + (mkK id k.2 x1).2.length) (ho.right a2.len.symm)
        simp only [mkT]
        refine ⟨fun t => ?_, a2.app a4⟩
        show RepV m' _ w (bif Nat.beq t k.1 then (mkK id k.2 x1).1 else slotOf _ t) _
        cases hb : Nat.beq t k.1 with
        | true => rw [Nat.eq_of_beq_eq_true hb]; exact a1
        | false => exact a3 t
      · cases h
    · cases h
theorem memO_mem {n : Nat} : ∀ {l : List (Option Nat)} {i : Nat}, l[i]? = some (some n) → memO n l = true
  | [], i, h => by simp at h
  | none :: r, 0, h => by simp at h
  | some k :: r, 0, h => by
    simp only [List.getElem?_cons_zero, Option.some.injEq] at h
    subst h
    simp [memO]
  | none :: r, i + 1, h => memO_mem (l := r) (i := i) (by simpa using h)
  | some k :: r, i + 1, h => by
    have := memO_mem (l := r) (i := i) (by simpa using h)
    simp [memO, this]
theorem nodupO_ne : ∀ {l : List (Option Nat)} {i j n : Nat}, nodupO l = true → l[i]? = some (some n) → l[j]? = some (some n) → i = j
  | [], i, j, n, _, h, _ => by simp at h
  | none :: r, i, j, n, h, hi, hj => by
    cases i with
    | zero => simp at hi
    | succ i =>
      cases j with
      | zero => simp at hj
      | succ j =>
        have := nodupO_ne (l := r) (n := n) h (i := i) (j := j) (by simpa using hi) (by simpa using hj)
        omega
  | some k :: r, i, j, n, h, hi, hj => by
    simp only [nodupO, Bool.and_eq_true, Bool.not_eq_true'] at h
    cases i with
    | zero =>
      cases j with
      | zero => rfl
      | succ j =>
        simp only [List.getElem?_cons_zero, Option.some.injEq] at hi
        subst hi
        rw [memO_mem (l := r) (i := j) (by simpa using hj)] at h
        cases h.1
    | succ i =>
      cases j with
      | zero =>
        simp only [List.getElem?_cons_zero, Option.some.injEq] at hj
        subst hj
        rw [memO_mem (l := r) (i := i) (by simpa using hi)] at h
        cases h.1
      | succ j =>
        have := nodupO_ne (l := r) (n := n) h.2 (i := i) (j := j) (by simpa using hi) (by simpa using hj)
        omega
/-- A state is one of those that are made of what is carried. -/
theorem deS_ok (hr : Rep w0 N m S a w) {t : List (Nat × TK)} {x : TT t} (h : deS S t = some x) : ∃ m', Rep w0 N m' (mkS t x) a w := by
  unfold deS at h
  split at h
  · rename_i x' ids hd
    rcases cond_some h with ⟨hnd, hh⟩ | ⟨_, h2⟩
    · cases hh
      let m' : Nm := ⟨fun j => match ids[j]? with
        | some (some u) => m.v u
        | _ => .slice none 0 0, fun j => match ids[j]? with
        | some (some u) => m.b u
        | _ => 0, m.F⟩
      have ho : Old m m' 0 ids := ⟨fun i u hu => by
        rw [Nat.zero_add]
        exact ⟨by show (match ids[i]? with | some (some u) => m.v u | _ => _) = _; rw [hu], by show (match ids[i]? with | some (some u) => m.b u | _ => _) = _; rw [hu]⟩, fun i hu => by
        rw [Nat.zero_add]
        show (match ids[i]? with | some (some u) => m.v u | _ => _) = _
        rw [hu]⟩
      obtain ⟨h1, h2⟩ := deT_ok (m' := m') hr rfl hd ho
      have hσ : ∀ i, (mkS t x).σ i = match (mkT 0 t x).2[i]? with
          | some b => b
          | none => .no := fun i => by
        show updσ (fun _ => .no) (numb 0 (mkT 0 t x).2) i = _
        rw [updσ_numb, if_pos (Nat.zero_le _), Nat.sub_zero]
        cases (mkT 0 t x).2[i]? <;> rfl
      refine ⟨m', hr.size, hr.nodef, h1, ⟨fun i => ?_, fun i j k hij hi hj => ?_, hr.heap.flt, hr.heap.below, hr.heap.kept⟩⟩
      · rw [hσ]
        cases hb : (mkT 0 t x).2[i]? with
        | none => trivial
        | some b =>
          have := (h2.blk i b hb).1
          rwa [Nat.zero_add] at this
      · rw [hσ] at hi hj
        cases hbi : (mkT 0 t x).2[i]? with
        | none => rw [hbi] at hi; cases hi
        | some b =>
          cases hbj : (mkT 0 t x).2[j]? with
          | none => rw [hbj] at hj; cases hj
          | some b' =>
            rw [hbi] at hi
            rw [hbj] at hj
            obtain ⟨u, hu, huk⟩ := (h2.blk i b hbi).2 k (by rw [Nat.zero_add]; exact hi)
            obtain ⟨u', hu', huk'⟩ := (h2.blk j b' hbj).2 k (by rw [Nat.zero_add]; exact hj)
            by_cases he : u = u'
            · subst he
              exact hij (nodupO_ne hnd hu hu')
            · exact hr.heap.apart u u' k he huk huk'
    · cases h2
  · cases h
end
end Go.Proofs.YtaknikdbnfmlfaaDoor.Ex
