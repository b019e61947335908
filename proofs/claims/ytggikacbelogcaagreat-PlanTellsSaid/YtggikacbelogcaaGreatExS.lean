/- An executor of translated code on abstract states, nineteenth part: loops and functions, from the equations that the executor gives. -/
import Derived.Test.YtggikacbelogcaaGreatExR
namespace Go.Proofs.YtggikacbelogcaaGreat.Ex
open Go Go.RowKit
set_option linter.unusedVariables false
set_option linter.unusedSimpArgs false
section
variable {P : Program} {R : List PK}
/-- One round of a loop. -/
def roundF (X : Cx P R) (k : Nat) (an : LAn R) (i : Nat) (c : Code) (x : TT an.TI) : Option (TT an.TO ⊕ PT R) :=
  exec X k c (i + 1) (mkS an.TI x) (mkN an.TI x) (fun e s _ => match e with
    | .nrm => match deZ s an.TI with
      | some x' => an.F k x'
      | none => none
    | .ex id => bif Nat.beq id an.ex then match deZ s an.TO with
        | some y => some (.inl y)
        | none => none
      else none) (fun r => some (.inr r))
theorem sub_loops : ∀ (b : Code) (i : Nat) (c : Code), (loopsOf b)[i]? = some c → ∀ (j : Nat) (c' : Code), (loopsOf c)[j]? = some c' → (loopsOf b)[i + 1 + j]? = some c'
  | .seq x y, i, c, h, j, c', hj => by
    simp only [loopsOf] at h ⊢
    by_cases hi : i < (loopsOf x).length
    · rw [List.getElem?_append_left hi] at h
      have := sub_loops x i c h j c' hj
      rw [List.getElem?_append_left (List.getElem?_eq_some_iff.1 this).1]
      exact this
    · rw [List.getElem?_append_right (by omega)] at h
      have := sub_loops y _ c h j c' hj
      rw [List.getElem?_append_right (by omega), show i + 1 + j - (loopsOf x).length = i - (loopsOf x).length + 1 + j by omega]
      exact this
  | .cond _ x y, i, c, h, j, c', hj => by
    simp only [loopsOf] at h ⊢
    by_cases hi : i < (loopsOf x).length
    · rw [List.getElem?_append_left hi] at h
      have := sub_loops x i c h j c' hj
      rw [List.getElem?_append_left (List.getElem?_eq_some_iff.1 this).1]
      exact this
    · rw [List.getElem?_append_right (by omega)] at h
      have := sub_loops y _ c h j c' hj
      rw [List.getElem?_append_right (by omega), show i + 1 + j - (loopsOf x).length = i - (loopsOf x).length + 1 + j by omega]
      exact this
  | .block _ x, i, c, h, j, c', hj => by
    simp only [loopsOf] at h ⊢
    exact sub_loops x i c h j c' hj
  | .loop x, i, c, h, j, c', hj => by
    simp only [loopsOf] at h ⊢
    cases i with
    | zero =>
      simp only [List.getElem?_cons_zero, Option.some.injEq] at h
      subst h
      rw [Nat.zero_add, Nat.add_comm, List.getElem?_cons_succ]
      exact hj
    | succ i =>
      rw [List.getElem?_cons_succ] at h
      rw [show i + 1 + 1 + j = (i + 1 + j) + 1 by omega, List.getElem?_cons_succ]
      exact sub_loops x i c h j c' hj
  | .skip, i, c, h, _, _, _ => by simp [loopsOf] at h
  | .region .., i, c, h, _, _, _ => by simp [loopsOf] at h
  | .rangeFunc .., i, c, h, _, _, _ => by simp [loopsOf] at h
  | .exit _, i, c, h, _, _, _ => by simp [loopsOf] at h
  | .scope _, i, c, h, _, _, _ => by simp [loopsOf] at h
  | .label _, i, c, h, _, _, _ => by simp [loopsOf] at h
  | .goto _, i, c, h, _, _, _ => by simp [loopsOf] at h
  | .ret, i, c, h, _, _, _ => by simp [loopsOf] at h
  | .refuse _, i, c, h, _, _, _ => by simp [loopsOf] at h
/-- What is owed for each loop that is told. -/
def LoopEq (X : Cx P R) (b : Code) : Prop := ∀ i an c, getL X.L i = some an → (loopsOf b)[i]? = some c → (∀ x, an.F 0 x = none) ∧ ∀ k x, an.F (k + 1) x = roundF X k an i c x
theorem loops_ok {fn : Func} {X : Cx P R} {b : Code} {w0 : Org} (hfn : X.rs = fn.results) (hE : LoopEq X b) : ∀ (k i : Nat) (an : LAn R) (c : Code), getL X.L i = some an → (loopsOf b)[i]? = some c → LoopOk P fn w0 X.N an c k := by
  intro k
  induction k using Nat.strongRecOn with
  | _ k ih =>
    intro i an c han hc x o m a w hF hr Q h1 h2
    refine c_loop (n := k) (fun q a w => q ≤ k ∧ ∃ x m, an.F q x = some o ∧ Rep w0 X.N m (mkS an.TI x) a w) ⟨Nat.le_refl _, x, m, hF, hr⟩ (fun q a w ⟨hq, x, m, hF, hr⟩ => ?_)
    obtain ⟨e0, e1⟩ := hE i an c han hc
    cases q with
    | zero => rw [e0] at hF; cases hF
    | succ q =>
      rw [e1] at hF
      refine exec_ok hfn (fun i an c h h' => ih q (by omega) i an c h h') hF hr mkS_ids (fun j c' hj => sub_loops b i c hc j c' hj) (fun e s' n' m' a' w' h3 h4 h5 => ?_) (fun x a' w' h3 h4 => h2 x a' w' (Option.some.inj h3).symm h4)
      cases e with
      | nrm =>
        simp only at h3
        split at h3
        · rename_i x' hx
          obtain ⟨m2, hr2⟩ := deZ_ok h4 hx
          exact ⟨q, Nat.lt_succ_self q, by omega, x', m2, h3, hr2⟩
        · cases h3
      | ex id =>
        simp only at h3
        rcases cond_some h3 with ⟨he, hk⟩ | ⟨_, h6⟩
        · have := Nat.eq_of_beq_eq_true he
          subst this
          split at hk
          · rename_i y hy
            obtain ⟨m2, hr2⟩ := deZ_ok h4 hy
            exact h1 y m2 a' w' (Option.some.inj hk).symm hr2
          · cases hk
        · cases h6
/-! ### a function's beginning -/
def arL : (k : LK) → k.ty → PV
  | .sc k, x => cellK false k x
  | .row _ s, l => .row false s l
  | .ptr s, x => .rptr false s x 0
  | .fnc f ss, x => .fn f (capPs false ss x)
def arLs : (s : List LK) → LT s → List PV
  | [] => fun _ => []
  | k :: r => match r with
    | [] => fun x => [arL k x]
    | k' :: r' => fun x => arL k x.1 :: arLs (k' :: r') x.2
def arP : (p : PK) → p.ty → PV
  | .one l, x => arL l x
  | .agg ls, x => .agg (arLs ls x)
def arPs : (s : List PK) → PT s → List PV
  | [] => fun _ => []
  | k :: r => match r with
    | [] => fun x => [arP k x]
    | k' :: r' => fun x => arP k x.1 :: arPs (k' :: r') x.2
def atPV : List PV → Nat → PV
  | [], _ => .un
  | p :: r, t => match t with
    | 0 => p
    | t + 1 => atPV r t
def inS (A : List PK) (x : PT A) : AS := ⟨atPV (arPs A x), fun _ => .no⟩
/-- A function run by the executor. -/
def runF (X : Cx P R) (k : Nat) (c : Code) (A : List PK) (x : PT A) : Option (PT R) := exec X k c 0 (inS A x) 0 (fun e s _ => match e with
  | .nrm => reZ P s X.rs R
  | .ex _ => none) some
section
variable {m : Nm} {B0 : Nat} {w : World}
theorem arL_ok {k : LK} {x : k.ty} {v : Value} (h : LKIs (okOf m B0 false) w k x v) : RepV m B0 w (arL k x) v ∧ ∀ p, (arL k x).ids p = true := by
  cases k with
  | sc k => exact ⟨cellK_ok h, fun p => cellK_ids⟩
  | row T s => exact ⟨.row h, fun p => rfl⟩
  | fnc f ss =>
    obtain ⟨cs, rfl, h⟩ := h
    obtain ⟨h1, h2⟩ := capPs_ok h
    exact ⟨.fn h1, fun p => by simp only [arL, PV.ids]; exact h2 p⟩
  | ptr s =>
    have h0 := h
    simp only [LKIs, SKIs] at h
    obtain ⟨b, o, cs, rfl, _⟩ := h
    exact ⟨.rptr h0, fun p => rfl⟩
theorem arLs_ok : ∀ {s : List LK} {x : LT s} {vs : List Value}, LTIs (okOf m B0 false) w s x vs → RepVs m B0 w (arLs s x) vs ∧ ∀ p, idsL p (arLs s x) = true
  | [], x, vs, h => by
    simp only [LTIs] at h
    subst h
    exact ⟨.nil, fun p => rfl⟩
  | [k], x, vs, h => by
    simp only [LTIs] at h
    obtain ⟨u, rfl, h⟩ := h
    obtain ⟨h1, h2⟩ := arL_ok h
    exact ⟨.cons h1 .nil, fun p => by simp only [arLs, idsL, h2, Bool.and_self]⟩
  | k :: k' :: r, x, vs, h => by
    simp only [LTIs] at h
    obtain ⟨u, us, rfl, h1, h2⟩ := h
    obtain ⟨a1, a2⟩ := arL_ok h1
    obtain ⟨a3, a4⟩ := arLs_ok h2
    exact ⟨.cons a1 a3, fun p => by simp only [arLs, idsL, a2, a4, Bool.and_self]⟩
theorem arP_ok {k : PK} {x : k.ty} {v : Value} (h : PKIs (okOf m B0 false) w k x v) : RepV m B0 w (arP k x) v ∧ ∀ p, (arP k x).ids p = true := by
  cases k with
  | one l => exact arL_ok h
  | agg ls =>
    obtain ⟨vs, rfl, h⟩ := h
    obtain ⟨h1, h2⟩ := arLs_ok h
    exact ⟨.agg h1, fun p => h2 p⟩
theorem arPs_ok : ∀ {s : List PK} {x : PT s} {vs : List Value}, PTIs (okOf m B0 false) w s x vs → RepVs m B0 w (arPs s x) vs ∧ ∀ p, idsL p (arPs s x) = true
  | [], x, vs, h => by
    simp only [PTIs] at h
    subst h
    exact ⟨.nil, fun p => rfl⟩
  | [k], x, vs, h => by
    simp only [PTIs] at h
    obtain ⟨u, rfl, h⟩ := h
    obtain ⟨h1, h2⟩ := arP_ok h
    exact ⟨.cons h1 .nil, fun p => by simp only [arPs, idsL, h2, Bool.and_self]⟩
  | k :: k' :: r, x, vs, h => by
    simp only [PTIs] at h
    obtain ⟨u, us, rfl, h1, h2⟩ := h
    obtain ⟨a1, a2⟩ := arP_ok h1
    obtain ⟨a3, a4⟩ := arPs_ok h2
    exact ⟨.cons a1 a3, fun p => by simp only [arPs, idsL, a2, a4, Bool.and_self]⟩
theorem atPV_ok : ∀ {ps : List PV} {vs : List Value}, RepVs m B0 w ps vs → ∀ t, RepV m B0 w (atPV ps t) ((vs[t]?).getD undef)
  | [], _, .nil, t => .un
  | p :: ps, v :: vs, .cons h hs, t => by
    cases t with
    | zero => exact h
    | succ t => simpa [atPV] using atPV_ok hs t
theorem atPV_ids {p : Nat → Bool} : ∀ {ps : List PV}, idsL p ps = true → ∀ t, (atPV ps t).ids p = true
  | [], _, t => rfl
  | q :: ps, h, t => by
    simp only [idsL, Bool.and_eq_true] at h
    cases t with
    | zero => exact h.1
    | succ t => exact atPV_ids h.2 t
end
/-- A FUNCTION's CONTRACT: what the executor hands back is what the call does. -/
theorem calls_of {f : FuncId} {fn : Func} {c : Code} {A : List PK} {X : Cx P R} {k : Nat} {F : PT A → Option (PT R)} (hf : P.funcs[f]? = some fn) (hb : fn.body = some c) (hN : A.length + (fn.ntmps - A.length) = X.N) (hrs : X.rs = fn.results) (hE : LoopEq X c) (hF : ∀ x, F x = runF X k c A x) : CallsOk P f A R F := by
  intro x r w vals hx hargs
  rw [hF] at hx
  have hlen : ∀ {s : List PK} {x : PT s} {vs : List Value} {ok : Nat → Prop}, PTIs ok w s x vs → vs.length = s.length := by
    intro s
    induction s with
    | nil => intro x vs ok h; simp only [PTIs] at h; simp [h]
    | cons k r ih =>
      intro x vs ok h
      cases r with
      | nil => simp only [PTIs] at h; obtain ⟨u, rfl, _⟩ := h; rfl
      | cons k' r' =>
        simp only [PTIs] at h
        obtain ⟨u, us, rfl, _, h2⟩ := h
        rw [List.length_cons, ih h2]; rfl
  let m : Nm := ⟨fun _ => undef, fun _ => 0, fun b => b < w.heap.size⟩
  have hargs' : PTIs (okOf m w.heap.size false) w A x vals := PTIs.le (fun b hb => ⟨hb, fun h => by cases h⟩) hargs
  obtain ⟨h1, h2⟩ := arPs_ok hargs'
  have hl := hlen hargs
  refine calls_of_wp hf hb ?_
  have hr : Rep ⟨w, fun _ => none⟩ X.N m (inS A x) { tmps := vals.toArray ++ Array.replicate (fn.ntmps - vals.toArray.size) undef, defers := [] } w := by
    refine ⟨by simp [hl]; exact hN, rfl, fun t => ?_, ⟨fun i => trivial, fun i j k _ h => (by cases h), fun k hk => hk, Below.refl _ _, fun k ob hk => (by cases hk)⟩⟩
    have := atPV_ok h1 t
    show RepV m _ w (atPV (arPs A x) t) _
    by_cases ht : t < vals.length
    · have e : (vals.toArray ++ Array.replicate (fn.ntmps - vals.toArray.size) undef).getD t undef = (vals[t]?).getD undef := by
        rw [Array.getD_eq_getD_getElem?, Array.getElem?_append_left (by simpa using ht)]
        simp
      show RepV m _ w _ ((vals.toArray ++ Array.replicate (fn.ntmps - vals.toArray.size) undef).getD t undef)
      rw [e]
      exact this
    · have hun : atPV (arPs A x) t = .un := by
        have hpl : (arPs A x).length = vals.length := h1.len
        have key : ∀ (ps : List PV) (t : Nat), ps.length ≤ t → atPV ps t = .un := by
          intro ps
          induction ps with
          | nil => intro t _; rfl
          | cons p ps ih =>
            intro t ht
            cases t with
            | zero => simp at ht
            | succ t => exact ih t (by simpa using ht)
        exact key _ _ (by omega)
      rw [hun]
      exact .un
  have hi : Ids (inS A x) 0 := ⟨fun t => atPV_ids (h2 _) t, fun i => rfl, fun i _ => rfl⟩
  refine exec_ok hrs (fun i an c' h h' => loops_ok hrs hE k i an c' h h') hx hr hi (fun j c' hj => by rw [Nat.zero_add]; exact hj) (fun e s' n' m' a' w' h3 h4 h5 => ?_) (fun y a' w' h3 h4 => ?_)
  · cases e with
    | nrm =>
      simp only at h3
      rw [hrs] at h3
      have := reZ_ok h4 h3
      obtain ⟨v, hv1, hv2⟩ := this.ex
      exact ⟨this.nodef, v, hv1, v, rfl, hv2, this.below⟩
    | ex id => cases h3
  · cases h3
    obtain ⟨v, hv1, hv2⟩ := h4.ex
    exact ⟨h4.nodef, v, hv1, v, rfl, hv2, h4.below⟩
end
end Go.Proofs.YtggikacbelogcaaGreat.Ex
