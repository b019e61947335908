/- An executor of translated code on abstract states, twenty-fourth part: slices.Clone (it asks whether a row is nil). -/
import Derived.Test.YtaknikdbnfmlfaaDoorExR
namespace Go.Proofs.YtaknikdbnfmlfaaDoor.Ex
open Go Go.RowKit
set_option linter.unusedVariables false
set_option linter.unusedSimpArgs false
/-- The beginning of slices.Clone. -/
def cloneC (sT bT : TypeId) (rest : Code) : Code :=
  (Code.region 0 #[{ dst := some 2, op := Op.assign (Operand.const (Value.slice none 0 0)), type := sT, pos := "slices.go:355", after := #[], guard := none }] false).seq
    (((Code.region 1 #[{ dst := some 3, op := Op.move (Operand.tmp 0), type := sT, pos := "slices.go:357", after := #[], guard := none },
      { dst := some 4, op := Op.binOp BinOp.eql sT (Operand.tmp 3) (Operand.const (Value.slice none 0 0)) sT, type := bT, pos := "slices.go:357", after := #[{ on := 0, ground := Ground.data }], guard := none }] false).seq
      (Code.cond (Operand.tmp 4) ((Code.region 2 #[{ dst := some 2, op := Op.assign (Operand.const (Value.slice none 0 0)), type := sT, pos := "slices.go:358", after := #[], guard := none }] false).seq Code.ret) Code.skip)).seq rest)
def restC : Code → Code
  | .seq _ (.seq _ r) => r
  | _ => .skip
def cloneS (s : List SK) (l : List (Tup s)) : AS := ⟨fun t => match t with
  | 0 => .row false s l
  | 2 => .v (.slice none 0 0)
  | _ => .un, fun _ => .no⟩
section
variable {P : Program} {R : List PK}
def runAt (X : Cx P R) (k : Nat) (c : Code) (S : AS) : Option (PT R) := exec X k c 0 S 0 (fun e s _ => match e with
  | .nrm => reZ P s X.rs R
  | .ex _ => none) some
theorem run_eqNil {w : World} {sT e bT : TypeId} {A : Option Addr} {n c : Nat} (hu : P.underlying sT = some (.slice e)) (hg : P.eqGuardType P.depth sT = false) (o : Oper) (ev : Operand → Value) {x y : Operand} {yt : TypeId} (ho : o.op = .binOp .eql sT x y yt) (hx : ev x = .slice A n c) (hy : ev y = .slice none 0 0) : (execOp ev o).run P w = .ok (.value (.bool A.isNone)) w := by
  refine run_bin ho hx hy ?_ ?_
  · unfold eqGuard
    simp [hg]
  · unfold binOp
    simp only [Sem.run_bind]
    have : (Go.Op.equal sT (.slice A n c) (.slice none 0 0)).run P w = .ok A.isNone w := by
      unfold Go.Op.equal Go.Op.maxDepth
      rw [Go.Op.equalIn]
      simp only [Sem.run_bind, run_underlying hu, Result.andThen_ok]
      cases A <;> simp
    simp [this]
theorem clone_calls {f : FuncId} {fn : Func} {T sT bT e : TypeId} {s : List SK} {rest : Code} {X : Cx P [.one (.row T s)]} {k : Nat} {F : List (Tup s) → Option (List (Tup s))} (hf : P.funcs[f]? = some fn) (hb : fn.body = some (cloneC sT bT rest)) (hN : 1 + (fn.ntmps - 1) = X.N) (h4 : Nat.blt 4 X.N = true) (hrs : X.rs = fn.results)
    (hL : X.L = []) (hl : loopsOf rest = []) (hu : P.underlying sT = some (.slice e)) (hg : P.eqGuardType P.depth sT = false) (h0 : F [] = some []) (hret : fn.results = #[.tmp 2]) (h1 : ∀ l, F l = runAt X k rest (cloneS s l)) : CallsOk P f [.one (.row T s)] [.one (.row T s)] F := by
  intro x r w vals hx hargs hgk
  simp only [PTIs, PKIs, LKIs] at hargs
  obtain ⟨u, rfl, hu'⟩ := hargs
  have h4' : 4 < X.N := Nat.le_of_ble_eq_true h4
  let m : Nm := ⟨fun _ => undef, fun _ => 0, fun b => b < w.heap.size⟩
  refine calls_of_wp hf hb ?_
  have hsk : SKIs (okOf m w.heap.size false) w (.row s) x u := SKIs.okle (fun b hb => ⟨hb, fun h => by cases h⟩) hu'
  obtain ⟨A, c, rfl, hc, hel⟩ : ∃ A c, u = .slice A (List.length (α := Tup s) x) c ∧ List.length (α := Tup s) x ≤ c ∧ (A = none → x = ([] : List (Tup s))) := by
    have := hu'
    simp only [SKIs] at this
    obtain ⟨A, c, rfl, hc, hr⟩ := this
    refine ⟨A, c, rfl, hc, fun hA => ?_⟩
    subst hA
    change List (Tup s) at x
    cases x with
    | nil => rfl
    | cons y ys =>
      obtain ⟨b, o, cs, h, _⟩ := hr 0 y rfl
      cases h
  generalize ha : ({ tmps := #[Value.slice A (List.length (α := Tup s) x) c] ++ Array.replicate (fn.ntmps - 1) undef, defers := [] } : Act) = a0
  have hsz : a0.tmps.size = X.N := by rw [← ha]; simp; omega
  have hdf : a0.defers = [] := by rw [← ha]
  have h00 : a0.tmps.getD 0 undef = Value.slice A (List.length (α := Tup s) x) c := by
    rw [← ha]
    simp only [Array.getD_eq_getD_getElem?]
    rw [Array.getElem?_append_left (by simp)]
    simp
  unfold cloneC
  refine wp_seq (wp_region_lit (wpList_step fun K hK => ?_))
  simp only [Region.wanted, if_true]
  unfold Oper.wp
  have e1 : (execOp a0.eval { dst := some 2, op := Op.assign (Operand.const (Value.slice none 0 0)), type := sT, pos := "slices.go:355", after := #[], guard := none }).run P w = .ok (.value (.slice none 0 0)) w := by
    unfold execOp; rfl
  rw [e1, Oper.upon_value]
  refine hK _ _ (wpList_nil ?_)
  show (Code.seq _ rest).wp P _ _ w
  refine wp_seq (wp_seq (wp_region_lit (wpList_step fun K hK => ?_)))
  simp only [Region.wanted, if_true]
  unfold Oper.wp
  have e2 : (execOp (a0.put (some 2) (.slice none 0 0)).eval { dst := some 3, op := Op.move (Operand.tmp 0), type := sT, pos := "slices.go:357", after := #[], guard := none }).run P w = .ok (.value (.slice A (List.length (α := Tup s) x) c)) w := by
    have : (a0.put (some 2) (.slice none 0 0)).eval (.tmp 0) = .slice A (List.length (α := Tup s) x) c := by
      show (a0.put (some 2) (.slice none 0 0)).tmps.getD 0 undef = _
      rw [put_get (fun u hu => by cases hu; rw [hsz]; omega)]
      simpa using h00
    unfold execOp
    simp only [this]
    rfl
  rw [e2, Oper.upon_value]
  refine hK _ _ (wpList_step fun K hK => ?_)
  simp only [Region.wanted, if_true]
  unfold Oper.wp
  generalize hv0 : Value.slice A (List.length (α := Tup s) x) c = v0 at *
  have e3 : (execOp ((a0.put (some 2) (.slice none 0 0)).put (some 3) v0).eval { dst := some 4, op := Op.binOp BinOp.eql sT (Operand.tmp 3) (Operand.const (Value.slice none 0 0)) sT, type := bT, pos := "slices.go:357", after := #[{ on := 0, ground := Ground.data }], guard := none }).run P w = .ok (.value (.bool A.isNone)) w := by
    refine run_eqNil hu hg (bT := bT) (x := .tmp 3) (y := .const (.slice none 0 0)) (yt := sT) _ _ rfl (A := A) (n := List.length (α := Tup s) x) (c := c) ?_ rfl
    show ((a0.put (some 2) (.slice none 0 0)).put (some 3) v0).tmps.getD 3 undef = _
    rw [put_get (fun u hu => by cases hu; rw [put_size, hsz]; omega), hv0]
    simp
  rw [e3, Oper.upon_value]
  refine hK _ _ (wpList_nil ?_)
  generalize hae : ((a0.put (some 2) (.slice none 0 0)).put (some 3) v0).put (some 4) (.bool A.isNone) = ae
  have hsze : ae.tmps.size = X.N := by rw [← hae]; simp only [put_size]; exact hsz
  have hdfe : ae.defers = [] := by rw [← hae]; simp only [put_defers]; exact hdf
  have g0 : ae.tmps.getD 0 undef = v0 := by
    rw [← hae, put_get (fun u hu => by cases hu; simp only [put_size, hsz]; omega), put_get (fun u hu => by cases hu; simp only [put_size, hsz]; omega), put_get (fun u hu => by cases hu; rw [hsz]; omega)]
    simpa using h00
  have g2 : ae.tmps.getD 2 undef = .slice none 0 0 := by
    rw [← hae, put_get (fun u hu => by cases hu; simp only [put_size, hsz]; omega), put_get (fun u hu => by cases hu; simp only [put_size, hsz]; omega), put_get (fun u hu => by cases hu; rw [hsz]; omega)]
    simp
  have g4 : ae.eval (.tmp 4) = .bool A.isNone := by
    show ae.tmps.getD 4 undef = _
    rw [← hae, put_get (fun u hu => by cases hu; simp only [put_size, hsz]; omega)]
    simp
  have hrep : Rep ⟨w, fun _ => none, hgk⟩ X.N m (cloneS s x) ae w := by
    refine ⟨hsze, hdfe, fun t => ?_, ⟨fun i => trivial, fun i j k _ h => (by cases h), fun k hk => hk, Below.refl _ _, fun k ob hk => (by cases hk)⟩⟩
    match t with
    | 0 => show RepV m _ w (.row false s x) _; rw [g0]; exact .row hsk
    | 1 => exact .un
    | 2 => show RepV m _ w (.v (.slice none 0 0)) _; rw [g2]; exact .v
    | t + 3 => exact .un
  have hids : Ids (cloneS s x) 0 := by
    refine ⟨fun t => ?_, fun i => rfl, fun i _ => rfl⟩
    match t with
    | 0 => rfl
    | 1 => rfl
    | 2 => rfl
    | t + 3 => rfl
  have hend : ∀ (y : PT [.one (.row T s)]) a' w', Ret P fn [.one (.row T s)] ⟨w, fun _ => none, hgk⟩ y a' w' → y = r → bodyPost P fn (fun en w' => ∃ v, en = .returned v ∧ Rets [.one (.row T s)] w w' r v ∧ Below w.heap.size w w') .ret a' w' := fun y a' w' h4 he => by
    subst he
    obtain ⟨v, hv1, hv2⟩ := h4.ex
    exact ⟨h4.nodef, v, hv1, v, rfl, hv2, h4.below⟩
  cases hA : A with
  | none =>
    have hx0 := hel hA
    refine wp_cond_true (by rw [g4, hA]; rfl) ?_
    refine wp_seq (wp_region_lit (wpList_step fun K hK => ?_))
    simp only [Region.wanted, if_true]
    unfold Oper.wp
    have e4 : (execOp ae.eval { dst := some 2, op := Op.assign (Operand.const (Value.slice none 0 0)), type := sT, pos := "slices.go:358", after := #[], guard := none }).run P w = .ok (.value (.slice none 0 0)) w := by
      unfold execOp; rfl
    rw [e4, Oper.upon_value]
    refine hK _ _ (wpList_nil ?_)
    have hr2 : Rep ⟨w, fun _ => none, hgk⟩ X.N m (cloneS s x) (ae.put (some 2) (.slice none 0 0)) w := by
      have := hrep.put (p := fun _ => true) (d := some 2) (E := ⟨.v (.slice none 0 0), []⟩) (v := .slice none 0 0) (by unfold dOk; exact Nat.ble_eq_true_of_le (by omega)) (Grows.refl _ _ _) (fun t => ids_all) .v hrep.heap
      refine this.le ⟨fun t => .inr ?_, fun i => .inl rfl⟩
      show updf (cloneS s x).fr (some 2) (.v (.slice none 0 0)) t = _
      rw [updf_get]
      split
      · rename_i h; cases h; rfl
      · rfl
    have hre : reZ P (cloneS s x) fn.results [.one (.row T s)] = some [] := by
      rw [hret]
      rfl
    have := reZ_ok hr2 hre
    subst hx0
    rw [h0] at hx
    cases hx
    exact wp_ret (hend _ _ _ this rfl)
  | some ad =>
    refine wp_cond_false (by rw [g4, hA]; rfl) (wp_skip ?_)
    show rest.wp P _ ae w
    have hx : runAt X k rest (cloneS s x) = some r := (h1 x).symm.trans hx
    unfold runAt at hx
    refine exec_ok (all := []) hrs (fun i an c' h h' => by rw [hL] at h; cases h) hx hrep hids (fun j c' hj => ?_) (fun e s' n' m' a' w' h3 h4 h5 => ?_) (fun y a' w' h3 h4 => ?_)
    · rw [hl] at hj; simp at hj
    · cases e with
      | nrm =>
        simp only at h3
        rw [hrs] at h3
        have := reZ_ok h4 h3
        obtain ⟨v, hv1, hv2⟩ := this.ex
        exact ⟨this.nodef, v, hv1, v, rfl, hv2, this.below⟩
      | ex id => cases h3
    · exact hend y a' w' h4 (Option.some.inj h3)
end
end Go.Proofs.YtaknikdbnfmlfaaDoor.Ex
