/- An executor of translated code on abstract states, seventeenth part: what is handed back. -/
import Derived.Test.YtaknikdbnfmlfaaDoorExP
namespace Go.Proofs.YtaknikdbnfmlfaaDoor.Ex
open Go Go.RowKit
set_option linter.unusedVariables false
set_option linter.unusedSimpArgs false
def resPV1 (P : Program) (S : AS) : ResultVar → Option PV
  | .tmp t => some (S.fr t)
  | .cell t T => match S.fr t with
    | .ptr i off => match S.σ i with
      | .box _ cs => partB P T cs off
      | _ => none
    | _ => none
def resPV (P : Program) (S : AS) : List ResultVar → Option (List PV)
  | [] => some []
  | r :: rs => match resPV1 P S r, resPV P S rs with
    | some p, some ps => some (p :: ps)
    | _, _ => none
/-- What a function value of the call's own reads. -/
def nePtr (s : List SK) (x : PV) : Option (Tup s) := match x with
  | .rptr fr s' d off => bif Nat.beq off 0 && fr then asTup s' s d else none
  | _ => none
def neCaps : (ss : List (List SK)) → List PV → Option (Tups ss)
  | [] => fun cs => match cs with
    | [] => some ()
    | _ => none
  | k :: r => match r with
    | [] => fun cs => match cs with
      | [c] => nePtr k c
      | _ => none
    | k' :: r' => fun cs => match cs with
      | c :: cs => match nePtr k c, neCaps (k' :: r') cs with
        | some x, some y => some (x, y)
        | _, _ => none
      | [] => none
def neFn (f : Nat) (ss : List (List SK)) (x : PV) : Option (Tups ss) := match x with
  | .fn g caps => bif Nat.beq f g then neCaps ss caps else none
  | _ => none
def reL (S : AS) (k : LK) (x : PV) : Option (k.ty × List (Option Nat)) := match k with
  | .sc k => bif flatK k then match unSc S k x with
      | some y => some (y, [])
      | none => none
    else none
  | .row T s => deOwn S T s x
  | .ptr _ => none
  | .fnc f ss => match neFn f ss x with
    | some y => some (y, [])
    | none => none
def reLs (S : AS) : (s : List LK) → List PV → Option (LT s × List (Option Nat))
  | [] => fun cs => match cs with
    | [] => some ((), [])
    | _ => none
  | k :: r => match r with
    | [] => fun cs => match cs with
      | [c] => reL S k c
      | _ => none
    | k' :: r' => fun cs => match cs with
      | c :: cs => match reL S k c with
        | some (x, i) => match reLs S (k' :: r') cs with
          | some (y, j) => some ((x, y), i ++ j)
          | none => none
        | none => none
      | [] => none
def reP (S : AS) (p : PK) (x : PV) : Option (p.ty × List (Option Nat)) := match p with
  | .one l => reL S l x
  | .agg ls => match x.parts with
    | some cs => reLs S ls cs
    | none => none
def rePs (S : AS) : (s : List PK) → List PV → Option (PT s × List (Option Nat))
  | [] => fun cs => match cs with
    | [] => some ((), [])
    | _ => none
  | k :: r => match r with
    | [] => fun cs => match cs with
      | [c] => reP S k c
      | _ => none
    | k' :: r' => fun cs => match cs with
      | c :: cs => match reP S k c with
        | some (x, i) => match rePs S (k' :: r') cs with
          | some (y, j) => some ((x, y), i ++ j)
          | none => none
        | none => none
      | [] => none
def reS (P : Program) (S : AS) (rs : Array ResultVar) (R : List PK) : Option (PT R) := match resPV P S rs.toList with
  | some ps => match rePs S R ps with
    | some (x, ids) => bif nodupO ids then some x else none
    | none => none
  | none => none
section
variable {P : Program} {w0 : Org} {N : Nat} {m : Nm} {S : AS} {a : Act} {w : World}
structure HandOut (m : Nm) (S : AS) (ids : List (Option Nat)) (rv : List Value) : Prop where
  len : rv.length = ids.length
  v : ∀ (i : Nat) (u : Value), rv[i]? = some u → u.ownBlock = none ∨ ∃ n, ids[i]? = some (some n) ∧ ∀ k, u.ownBlock = some k → blkOf m n (S.σ n) k
theorem HandOut.nil : HandOut m S [] [] := ⟨rfl, fun i u h => by simp at h⟩
theorem HandOut.app {i1 i2 : List (Option Nat)} {r1 r2 : List Value} (h1 : HandOut m S i1 r1) (h2 : HandOut m S i2 r2) : HandOut m S (i1 ++ i2) (r1 ++ r2) := by
  refine ⟨by simp [h1.len, h2.len], fun i u hu => ?_⟩
  by_cases hi : i < r1.length
  · rw [List.getElem?_append_left hi] at hu
    rw [List.getElem?_append_left (by rw [← h1.len]; exact hi)]
    exact h1.v i u hu
  · rw [List.getElem?_append_right (by omega)] at hu
    rw [List.getElem?_append_right (by rw [← h1.len]; omega), ← h1.len]
    exact h2.v _ u hu
def Fz (m : Nm) (B0 : Nat) : Nat → Prop := fun k => m.F k ∧ B0 ≤ k
theorem Fz_of {fr : Bool} {B0 : Nat} {w : World} (h : fr = true) : Stays (okOf m B0 fr) (Fz m B0) w w := fun b hb => ⟨⟨hb.1, hb.2 h⟩, rfl⟩
theorem nePtr_ok {B0 : Nat} {s : List SK} {x : PV} {v : Value} {y : Tup s} (h : nePtr s x = some y) (hx : RepV m B0 w x v) : SKIs (Fz m B0) w (.ptr s) y v := by
  unfold nePtr at h
  split at h
  · rename_i fr s' d off
    rcases cond_some h with ⟨h0, hh⟩ | ⟨_, h2⟩
    · rw [Bool.and_eq_true] at h0
      obtain ⟨h0, hf⟩ := h0
      have := Nat.eq_of_beq_eq_true h0
      subst this
      subst hf
      obtain ⟨rfl, rfl⟩ := asTup_some hh
      cases hx with | rptr hx =>
      rw [Nat.add_zero]
      exact SKIs.move (Fz_of rfl) hx
    · cases h2
  · cases h
theorem neCaps_ok {B0 : Nat} : ∀ {s : List (List SK)} {cs : List PV} {vs : List Value} {y : Tups s}, neCaps s cs = some y → RepVs m B0 w cs vs → CapsIs (Fz m B0) w s y vs
  | [], cs, vs, y, h, hx => by
    match cs, h, hx with
    | [], h, .nil => simp only [CapsIs]
    | _ :: _, h, _ => simp [neCaps] at h
  | [k], cs, vs, y, h, hx => by
    match cs, h, hx with
    | [], h, _ => simp [neCaps] at h
    | [c], h, .cons hx .nil => simp only [neCaps] at h; simp only [CapsIs]; exact ⟨_, rfl, nePtr_ok h hx⟩
    | _ :: _ :: _, h, _ => simp [neCaps] at h
  | k :: k' :: r, cs, vs, y, h, hx => by
    match cs, h, hx with
    | [], h, _ => simp [neCaps] at h
    | c :: cs, h, .cons hx hs =>
      simp only [neCaps] at h
      split at h
      · rename_i x1 y1 h1 h2
        cases h
        simp only [CapsIs]
        exact ⟨_, _, rfl, nePtr_ok h1 hx, neCaps_ok h2 hs⟩
      · cases h
theorem neFn_ok {B0 : Nat} {f : Nat} {ss : List (List SK)} {x : PV} {v : Value} {y : Tups ss} (h : neFn f ss x = some y) (hx : RepV m B0 w x v) : ∃ cs : List Value, v = .func (.func f) #[] cs.toArray ∧ CapsIs (Fz m B0) w ss y cs := by
  unfold neFn at h
  split at h
  · rename_i g caps
    rcases cond_some h with ⟨h0, hh⟩ | ⟨_, h2⟩
    · have := Nat.eq_of_beq_eq_true h0
      subst this
      cases hx with | fn hx =>
      exact ⟨_, rfl, neCaps_ok hh hx⟩
    · cases h2
  · cases h
theorem reL_ok (hr : Rep w0 N m S a w) {k : LK} {x : PV} {v : Value} {y : k.ty} {ids : List (Option Nat)} (h : reL S k x = some (y, ids)) (hx : RepV m w0.heap.size w x v) : ∃ rv, LKNew w0.heap.size (Fz m w0.heap.size) w k y v rv ∧ HandOut m S ids rv := by
  cases k with
  | ptr s => cases h
  | fnc f ss =>
    simp only [reL] at h
    split at h
    · rename_i y' hq
      cases h
      exact ⟨[], ⟨rfl, neFn_ok hq hx⟩, HandOut.nil⟩
    · cases h
  | sc k =>
    simp only [reL] at h
    rcases cond_some h with ⟨hf, hh⟩ | ⟨_, h2⟩
    · split at hh
      · rename_i y' hq
        cases hh
        exact ⟨[], ⟨rfl, SKIs.flat hf (unSc_ok hr hq hx)⟩, HandOut.nil⟩
      · cases hh
    · cases h2
  | row T s =>
    simp only [reL, deOwn] at h
    split at h
    · rename_i i
      split at h
      · rename_i fr T' s' l hσ
        rcases cond_some h with ⟨hc, hh⟩ | ⟨_, h2⟩
        · clear h
          rw [Bool.and_eq_true] at hc
          have hT := Nat.eq_of_beq_eq_true hc.1
          subst hT
          split at hh
          · rename_i l' hl
            cases hh
            obtain ⟨rfl, rfl⟩ := asRows_some hl
            cases hx with | own hx =>
            have hb := hr.heap.blk i
            rw [hσ] at hb
            obtain ⟨xs, b1, b2, b3⟩ := hb
            refine ⟨[_], ⟨rfl, xs, by rw [← hx]; exact b1, ?_⟩, rfl, fun j u hu => ?_⟩
            · intro q z hq
              have hz := b2 q z hq
              cases hfr : fr with
              | true => rw [hfr] at hz; exact TupIs.move (Fz_of rfl) hz
              | false =>
                have hfl : s'.all flatK = true := by have := hc.2; rw [hfr] at this; simpa using this
                exact TupIs.flat hfl hz
            · cases j with
              | succ j => simp at hu
              | zero =>
                simp only [List.getElem?_cons_zero, Option.some.injEq] at hu
                subst hu
                refine .inr ⟨i, rfl, fun k hk => ?_⟩
                rw [hσ]
                show (m.v i).ownBlock = some k
                rw [hx]
                exact hk
          · cases hh
        · cases h2
      · cases h
    · rename_i v'
      rcases cond_some h with ⟨hc, hh⟩ | ⟨_, h2⟩
      · cases hh
        have := nilV_eq hc
        subst this
        cases hx
        refine ⟨[_], ⟨rfl, [], World.ownsRow_nil _ _ _ _, RowsIs.nil⟩, rfl, fun j u hu => ?_⟩
        cases j with
        | succ j => simp at hu
        | zero =>
          simp only [List.getElem?_cons_zero, Option.some.injEq] at hu
          subst hu
          exact .inl rfl
      · cases h2
    · cases h
theorem reLs_ok (hr : Rep w0 N m S a w) : ∀ {s : List LK} {cs : List PV} {vs : List Value} {y : LT s} {ids : List (Option Nat)}, reLs S s cs = some (y, ids) → RepVs m w0.heap.size w cs vs → ∃ rv, LTNew w0.heap.size (Fz m w0.heap.size) w s y vs rv ∧ HandOut m S ids rv
  | [], cs, vs, y, ids, h, hx => by
    match cs, h, hx with
    | [], h, .nil => simp only [reLs] at h; cases h; exact ⟨[], by simp [LTNew], HandOut.nil⟩
    | _ :: _, h, _ => simp [reLs] at h
  | [k], cs, vs, y, ids, h, hx => by
    match cs, h, hx with
    | [], h, _ => simp [reLs] at h
    | [c], h, .cons hx .nil =>
      simp only [reLs] at h
      obtain ⟨rv, h1, h2⟩ := reL_ok hr h hx
      exact ⟨rv, by simp only [LTNew]; exact ⟨_, rfl, h1⟩, h2⟩
    | _ :: _ :: _, h, _ => simp [reLs] at h
  | k :: k' :: r, cs, vs, y, ids, h, hx => by
    match cs, h, hx with
    | [], h, _ => simp [reLs] at h
    | c :: cs, h, .cons hx hs =>
      simp only [reLs] at h
      split at h
      · rename_i x1 i1 h1
        split at h
        · rename_i y1 j1 h2
          cases h
          obtain ⟨r1, a1, a2⟩ := reL_ok hr h1 hx
          obtain ⟨r2, a3, a4⟩ := reLs_ok hr h2 hs
          exact ⟨r1 ++ r2, by simp only [LTNew]; exact ⟨_, _, _, _, rfl, rfl, a1, a3⟩, a2.app a4⟩
        · cases h
      · cases h
theorem reP_ok (hr : Rep w0 N m S a w) {p : PK} {x : PV} {v : Value} {y : p.ty} {ids : List (Option Nat)} (h : reP S p x = some (y, ids)) (hx : RepV m w0.heap.size w x v) : ∃ rv, PKNew w0.heap.size (Fz m w0.heap.size) w p y v rv ∧ HandOut m S ids rv := by
  cases p with
  | one l => exact reL_ok hr h hx
  | agg ls =>
    simp only [reP] at h
    split at h
    · rename_i cs hp
      obtain ⟨vs, rfl, hvs⟩ := PV.parts_ok hp hx
      obtain ⟨rv, h1, h2⟩ := reLs_ok hr h hvs
      exact ⟨rv, ⟨vs, rfl, h1⟩, h2⟩
    · cases h
theorem rePs_ok (hr : Rep w0 N m S a w) : ∀ {s : List PK} {cs : List PV} {vs : List Value} {y : PT s} {ids : List (Option Nat)}, rePs S s cs = some (y, ids) → RepVs m w0.heap.size w cs vs → ∃ rv, PTNew w0.heap.size (Fz m w0.heap.size) w s y vs rv ∧ HandOut m S ids rv
  | [], cs, vs, y, ids, h, hx => by
    match cs, h, hx with
    | [], h, .nil => simp only [rePs] at h; cases h; exact ⟨[], by simp [PTNew], HandOut.nil⟩
    | _ :: _, h, _ => simp [rePs] at h
  | [k], cs, vs, y, ids, h, hx => by
    match cs, h, hx with
    | [], h, _ => simp [rePs] at h
    | [c], h, .cons hx .nil =>
      simp only [rePs] at h
      obtain ⟨rv, h1, h2⟩ := reP_ok hr h hx
      exact ⟨rv, by simp only [PTNew]; exact ⟨_, rfl, h1⟩, h2⟩
    | _ :: _ :: _, h, _ => simp [rePs] at h
  | k :: k' :: r, cs, vs, y, ids, h, hx => by
    match cs, h, hx with
    | [], h, _ => simp [rePs] at h
    | c :: cs, h, .cons hx hs =>
      simp only [rePs] at h
      split at h
      · rename_i x1 i1 h1
        split at h
        · rename_i y1 j1 h2
          cases h
          obtain ⟨r1, a1, a2⟩ := reP_ok hr h1 hx
          obtain ⟨r2, a3, a4⟩ := rePs_ok hr h2 hs
          exact ⟨r1 ++ r2, by simp only [PTNew]; exact ⟨_, _, _, _, rfl, rfl, a1, a3⟩, a2.app a4⟩
        · cases h
      · cases h
theorem apart_of : ∀ {rv : List Value}, (∀ (i j : Nat) (u v : Value) (k : Nat), i ≠ j → rv[i]? = some u → rv[j]? = some v → u.ownBlock = some k → v.ownBlock = some k → False) → Ex.Apart rv
  | [], _ => trivial
  | x :: r, h => by
    refine ⟨fun u hu k h1 h2 => ?_, apart_of (fun i j u v k hij hu hv => h (i + 1) (j + 1) u v k (by omega) (by simpa using hu) (by simpa using hv))⟩
    obtain ⟨q, hq⟩ := List.mem_iff_getElem?.1 hu
    exact h 0 (q + 1) x u k (by omega) rfl (by simpa using hq) h1 h2
def rvar (tmps : Array Value) : ResultVar → Sem Value
  | .tmp t => pure (tmps.getD t undef)
  | .cell b t => do loadVar t (← asAddr (tmps.getD b undef))
theorem resPV1_ok (hr : Rep w0 N m S a w) {rv : ResultVar} {p : PV} (h : resPV1 P S rv = some p) : ∃ v, (rvar a.tmps rv).run P w = .ok v w ∧ RepV m w0.heap.size w p v := by
  cases rv with
  | tmp t => cases h; exact ⟨_, rfl, hr.get t⟩
  | cell t T =>
    simp only [resPV1] at h
    split at h
    · rename_i i off hx
      split at h
      · rename_i T' cs hσ
        have h1 := hr.get t
        rw [hx] at h1
        generalize hz : a.tmps.getD t undef = z at h1
        cases h1
        have hb := hr.heap.blk i
        rw [hσ] at hb
        obtain ⟨_, _, vs, hvs, hh⟩ := hb
        obtain ⟨v, h2, h3⟩ := load_cells hvs (CellsAt.of_block hh) h
        rw [Nat.zero_add] at h2
        refine ⟨v, ?_, h3⟩
        simp only [rvar, hz, asAddr]
        simpa [Instr.loadAt, Instr.sureAddr] using h2
      · cases h
    · cases h
theorem resPV_ok (hr : Rep w0 N m S a w) : ∀ {rs : List ResultVar} {ps : List PV}, resPV P S rs = some ps → ∃ vs : List Value, (rs.mapM (rvar a.tmps)).run P w = .ok vs w ∧ RepVs m w0.heap.size w ps vs
  | [], ps, h => by cases h; exact ⟨[], by simp, .nil⟩
  | r :: rs, ps, h => by
    simp only [resPV] at h
    split at h
    · rename_i p ps' h1 h2
      cases h
      obtain ⟨v, a1, a2⟩ := resPV1_ok hr h1
      obtain ⟨vs, a3, a4⟩ := resPV_ok hr h2
      refine ⟨v :: vs, ?_, .cons a2 a4⟩
      rw [List.mapM_cons, Sem.run_bind, a1]
      simp only [Result.andThen_ok, Sem.run_bind, a3]
      rfl
    · cases h
/-- What is handed back. -/
structure Ret (P : Program) (fn : Func) (R : List PK) (w0 : Org) (x : PT R) (a : Act) (w : World) : Prop where
  ex0 : ∃ v, (results fn a.tmps).run P w = .ok v w ∧ ∃ vs rv F, v = retV vs ∧ PTNew w0.heap.size F w R x vs rv ∧ Ex.Apart rv ∧ (∀ u ∈ rv, ∀ k, u.ownBlock = some k → ¬ F k ∧ w0.kept k = none) ∧ ∀ k, F k → w0.heap.size ≤ k ∧ k < w.heap.size
  nodef : a.defers = []
  below : Below w0.heap.size w0.toWorld w
  kept : ∀ k ob, w0.kept k = some ob → w.heap[k]? = some ob
theorem Ret.ex {fn : Func} {R : List PK} {x : PT R} (h : Ret P fn R w0 x a w) : ∃ v, (results fn a.tmps).run P w = .ok v w ∧ Rets R w0.toWorld w x v := by
  obtain ⟨v, h1, vs, rv, F, h2, h3, h4, h5, h6⟩ := h.ex0
  exact ⟨v, h1, ⟨vs, rv, F, h2, h3, h4, fun u hu k hk => (h5 u hu k hk).1, h6⟩⟩
theorem reS_ok (hr : Rep w0 N m S a w) {fn : Func} {R : List PK} {x : PT R} (h : reS P S fn.results R = some x) : Ret P fn R w0 x a w := by
  unfold reS at h
  split at h
  · rename_i ps hps
    split at h
    · rename_i x' ids hre
      rcases cond_some h with ⟨hnd, hh⟩ | ⟨_, h2⟩
      · cases hh
        obtain ⟨vs, h1, h2⟩ := resPV_ok hr hps
        obtain ⟨rv, h3, h4⟩ := rePs_ok hr hre h2
        refine ⟨⟨retV vs, ?_, vs, rv, Fz m w0.heap.size, rfl, h3, apart_of (fun i j u v k hij hu hv hk hk' => ?_), fun u hu k hk => ?_, fun k hk => ⟨hk.2, hr.heap.flt k hk.1⟩⟩, hr.nodef, hr.heap.below, fun k ob hk => (hr.heap.kept k ob hk).2⟩
        · have he : results fn a.tmps = (do let vs ← fn.results.mapM (rvar a.tmps); pure (if h : vs.size = 1 then vs[0] else .tuple vs) : Sem Value) := by
            unfold results
            congr
          rw [he, Sem.run_bind, Array.mapM_eq_mapM_toList, Sem.run_map, h1]
          simp only [Result.andThen_ok, Sem.run_pure]
          congr 1
          match vs with
          | [] => rfl
          | [v] => rfl
          | _ :: _ :: _ => simp [retV]
        · rcases h4.v i u hu with h5 | ⟨n, hn, hb⟩
          · rw [h5] at hk; cases hk
          · rcases h4.v j v hv with h6 | ⟨n', hn', hb'⟩
            · rw [h6] at hk'; cases hk'
            · by_cases he : n = n'
              · subst he
                exact hij (nodupO_ne hnd hn hn')
              · exact hr.heap.apart n n' k he (hb k hk) (hb' k hk')
        · obtain ⟨q, hq⟩ := List.mem_iff_getElem?.1 hu
          rcases h4.v q u hq with h5 | ⟨n, hn, hb⟩
          · rw [h5] at hk; cases hk
          · have hnF := (blk_lt hr.heap (hb k hk)).2.1
            refine ⟨fun hF => hnF hF.1, ?_⟩
            cases hq : w0.kept k with
            | none => rfl
            | some ob => exact absurd (hr.heap.kept k ob hq).1 hnF
      · cases h2
    · cases h
  · cases h
end
end Go.Proofs.YtaknikdbnfmlfaaDoor.Ex
