/- An executor of translated code on abstract states: functions that take a row over, run by the executor. -/
import Derived.Test.YtaknikdbnfmlfaaDoorExR
namespace Go.Proofs.YtaknikdbnfmlfaaDoor.Ex
open Go Go.RowKit
set_option linter.unusedVariables false
section
variable {P : Program} {T : TypeId} {s : List SK}
def inM (T : TypeId) (s : List SK) (l : List (Tup s)) (A : List PK) (x : PT A) : AS := ⟨fun t => match t with
  | 0 => .own 0
  | t + 1 => atPV (arPs A x) t, fun i => match i with
  | 0 => .own true T s l
  | _ => .no⟩
def runM (X : Cx P [.one (.row T s)]) (k : Nat) (c : Code) (A : List PK) (l : List (Tup s)) (x : PT A) : Option (List (Tup s)) := exec X k c 0 (inM T s l A x) 1 (fun e s _ => match e with
  | .nrm => reZ P s X.rs [.one (.row T _)]
  | .ex _ => none) some
theorem mut_of {f : FuncId} {fn : Func} {c : Code} {A : List PK} {X : Cx P [.one (.row T s)]} {k : Nat} {F : List (Tup s) → PT A → Option (List (Tup s))} (hfl : s.all flatK = true) (hf : P.funcs[f]? = some fn) (hb : fn.body = some c) (hN : 1 + A.length + (fn.ntmps - (1 + A.length)) = X.N) (hrs : X.rs = fn.results) (hE : LoopEq X c) (hF : ∀ l x, F l x = runM X k c A l x) : MutOk P f T s A false F := by
  intro l x r w v vals base Fz Rd xs hx hown hbase hrows hFz hRd hno hargs hgk
  rw [hF] at hx
  have hlen : ∀ {s : List PK} {x : PT s} {vs : List Value} {ok : Nat → Prop}, PTIs ok w s x vs → vs.length = s.length := by
    intro s
    induction s with
    | nil => intro x vs ok h; simp only [PTIs] at h; simp [h]
    | cons k r ih =>
      intro x vs ok h
      cases r with
      | nil => simp only [PTIs] at h; obtain ⟨u, rfl, _⟩ := h; rfl
      | cons k' r' =>
        simp only [PTIs] at h
        obtain ⟨u, us, rfl, _, h2⟩ := h
        rw [List.length_cons, ih h2]; rfl
  have hl := hlen hargs
  obtain ⟨vA, vn, vc, hv⟩ : ∃ A n c, v = .slice A n c := by
    rcases hown.2 with ⟨h, _⟩ | ⟨_, _, _, h, _⟩ <;> exact ⟨_, _, _, h⟩
  let m : Nm := ⟨fun _ => v, fun _ => 0, fun b => b < w.heap.size ∧ v.ownBlock ≠ some b⟩
  let w0 : Org := ⟨{ w with heap := w.heap.extract 0 base }, fun k => if v.ownBlock = some k then none else w.heap[k]?, hgk⟩
  have hsz : w0.heap.size = base := by
    show (w.heap.extract 0 base).size = base
    rw [Array.size_extract]; omega
  have hargs' : PTIs (okOf m w0.heap.size false) w A x vals := PTIs.le (fun b hb => ⟨⟨hRd b hb, fun e => (hno b e).2 hb⟩, fun h => by cases h⟩) hargs
  obtain ⟨h1, h2⟩ := arPs_ok hargs'
  refine calls_of_wp hf hb ?_
  have hr : Rep w0 X.N m (inM T s l A x) { tmps := (v :: vals).toArray ++ Array.replicate (fn.ntmps - (v :: vals).toArray.size) undef, defers := [] } w := by
    refine ⟨by simp [hl]; omega, rfl, fun t => ?_, ⟨fun i => ?_, fun i j k hij hi hj => ?_, fun k hk => hk.1, ⟨rfl, rfl, rfl, by rw [hsz]; exact hbase, fun k hk => ?_⟩, fun k ob hk => ?_⟩⟩
    · cases t with
      | zero =>
        have e : ((v :: vals).toArray ++ Array.replicate (fn.ntmps - (v :: vals).toArray.size) undef).getD 0 undef = v := by
          rw [Array.getD_eq_getD_getElem?, Array.getElem?_append_left (by simp)]
          simp
        show RepV m _ w (.own 0) (((v :: vals).toArray ++ Array.replicate (fn.ntmps - (v :: vals).toArray.size) undef).getD 0 undef)
        rw [e, hv]
        exact .own hv
      | succ t =>
        have := atPV_ok h1 t
        show RepV m _ w (atPV (arPs A x) t) (((v :: vals).toArray ++ Array.replicate (fn.ntmps - (v :: vals).toArray.size) undef).getD (t + 1) undef)
        by_cases ht : t < vals.length
        · have e : ((v :: vals).toArray ++ Array.replicate (fn.ntmps - (v :: vals).toArray.size) undef).getD (t + 1) undef = (vals[t]?).getD undef := by
            rw [Array.getD_eq_getD_getElem?, Array.getElem?_append_left (by simpa using ht)]
            simp
          rw [e]
          exact this
        · have hun : atPV (arPs A x) t = .un := by
            have hpl : (arPs A x).length = vals.length := h1.len
            have key : ∀ (ps : List PV) (t : Nat), ps.length ≤ t → atPV ps t = .un := by
              intro ps
              induction ps with
              | nil => intro t _; rfl
              | cons p ps ih =>
                intro t ht
                cases t with
                | zero => simp at ht
                | succ t => exact ih t (by simpa using ht)
            exact key _ _ (by omega)
          rw [hun]
          exact .un
    · cases i with
      | zero => exact ⟨xs, by rw [hsz]; exact hown, fun i y hy => TupIs.flat hfl (hrows i y hy), fun k hk hF => hF.2 hk⟩
      | succ i => trivial
    · cases i with
      | zero => cases j with
        | zero => exact hij rfl
        | succ j => cases hj
      | succ i => cases hi
    · show w.heap[k]? = (w.heap.extract 0 base)[k]?
      rw [hsz] at hk
      rw [Array.getElem?_extract]
      simp
      intro h
      omega
    · have hk' : (if v.ownBlock = some k then none else w.heap[k]?) = some ob := hk
      split at hk'
      · cases hk'
      · rename_i hne
        exact ⟨⟨(Array.getElem?_eq_some_iff.1 hk').1, hne⟩, hk'⟩
  have hi : Ids (inM T s l A x) 1 := by
    refine ⟨fun t => ?_, fun i => ?_, fun i hi => ?_⟩
    · cases t with
      | zero => rfl
      | succ t => exact atPV_ids (h2 _) t
    · cases i <;> rfl
    · cases i with
      | zero => omega
      | succ i => rfl
  have fin : ∀ (y : PT [.one (.row T s)]) a' w', Ret P fn [.one (.row T s)] w0 y a' w' → y = r → bodyPost P fn (fun e w' => ∃ v' xs', e = .returned (if false = true then .tuple #[] else v') ∧ (false = true → v' = v) ∧ w'.ownsRow base T s.length v' r.length xs' ∧ RowsIs Fz w' s r xs' ∧
      (∀ k, v'.ownBlock = some k → v.ownBlock = some k ∨ w.heap.size ≤ k) ∧ (w'.os = w.os ∧ w'.tape = w.tape ∧ w'.output = w.output) ∧ base ≤ w'.heap.size ∧ ∀ k, k < w.heap.size → v.ownBlock ≠ some k → w'.heap[k]? = w.heap[k]?) .ret a' w' := by
    intro y a' w' h4 he
    subst he
    obtain ⟨v', e1, vs, rv, F', e2, e3, e4, e5, e6⟩ := h4.ex0
    simp only [PTNew, PKNew, LKNew] at e3
    obtain ⟨u, rfl, rfl, xs', e7, e8⟩ := e3
    have e9 : v' = u := e2
    subst e9
    have hbl := h4.below
    refine ⟨h4.nodef, v', e1, v', xs', by simp, fun h => (by cases h), (by rw [hsz] at e7; exact e7), fun i z hz => TupIs.flat hfl (e8 i z hz), fun k hk => ?_, ⟨hbl.os, hbl.tape, hbl.output⟩, by have := hbl.size; rw [hsz] at this; exact this, fun k hk hne => ?_⟩
    · have h5 : (if v.ownBlock = some k then none else w.heap[k]?) = none := (e5 v' (by simp) k hk).2
      split at h5
      · rename_i h6; exact .inl h6
      · right
        simpa using h5
    · have h5 := h4.kept k w.heap[k] (by
        show (if v.ownBlock = some k then none else w.heap[k]?) = _
        rw [if_neg hne, Array.getElem?_eq_getElem hk])
      rw [h5, Array.getElem?_eq_getElem hk]
  refine exec_ok hrs (fun i an c h h' => loops_ok hrs hE k i an c h h') hx hr hi (fun j c' hj => by rw [Nat.zero_add]; exact hj) (fun e s' n' m' a' w' h3 h4 h5 => ?_) (fun y a' w' h3 h4 => ?_)
  · cases e with
    | nrm =>
      simp only at h3
      rw [hrs] at h3
      have := fin _ a' w' (reZ_ok h4 h3) rfl
      obtain ⟨q1, q2, q3, q4⟩ := this
      exact ⟨q1, q2, q3, q4⟩
    | ex id => cases h3
  · exact fin y a' w' h4 (Option.some.inj h3)
end
end Go.Proofs.YtaknikdbnfmlfaaDoor.Ex
