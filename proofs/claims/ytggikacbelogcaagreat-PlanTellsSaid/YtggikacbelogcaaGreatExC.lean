/- An executor of translated code on abstract states, third part: the step of an operation, and operations that turn nothing. -/
import Derived.Test.YtggikacbelogcaaGreatExB
namespace Go.Proofs.YtggikacbelogcaaGreat.Ex
open Go Go.RowKit
set_option linter.unusedVariables false
set_option linter.unusedSimpArgs false

/-- The numbers that an operation may give to what it makes: eight from id0 on. -/
def old (id0 : Nat) (i : Nat) : Bool := Nat.blt i id0 || Nat.ble (id0 + 8) i
structure Fresh (id0 : Nat) (s : AS) : Prop where
  fr : ∀ t, (s.fr t).ids (old id0) = true
  σ : ∀ i, (s.σ i).ids (old id0) = true
  no : ∀ i, old id0 i = false → s.σ i = .no
/-- What an operation does, from a state that knows what S knows. -/
def Step (P : Program) (w0 : Org) (N : Nat) (S : AS) (id0 : Nat) (o : Oper) (E : Eff) : Prop :=
  ∀ (S' : AS) (m : Nm) (a : Act) (w : World), Le S S' → Fresh id0 S' → Rep w0 N m S' a w → ∀ (K : Act → World → Prop) (Q : Exit → Act → World → Prop),
    (∀ m' w' v, Grows (old id0) m m' w w' → Heap w0 m' (updσ S'.σ E.upd) w' → RepV m' w0.heap.size w' E.v v → K (a.put o.dst v) w') → o.wp P a w K Q
section
variable {P : Program} {w0 : Org} {N : Nat} {S : AS} {id0 : Nat} {o : Oper} {E : Eff}
theorem Step.value {p : PV} (h : ∀ m a w, Rep w0 N m S a w → ∃ v, (execOp a.eval o).run P w = .ok (.value v) w ∧ RepV m w0.heap.size w p v) : Step P w0 N S id0 o ⟨p, []⟩ := by
  intro S' m a w hl hf hr K Q hK
  obtain ⟨v, hrun, hv⟩ := h m a w (hr.le hl)
  unfold Oper.wp
  rw [hrun, Oper.upon_value]
  exact hK m w v (Grows.refl _ _ _) hr.heap hv
end
/-- An operation of the executor is sound: whatever it hands on is what the machine does. -/
def Sound (P : Program) (w0 : Org) (N : Nat) (S : AS) (id0 : Nat) (o : Oper) {ρ : Type} (κ : Eff → Option ρ) (r : ρ) : Prop := ∃ E, κ E = some r ∧ Step P w0 N S id0 o E
def SoundV (P : Program) (w0 : Org) (N : Nat) (S : AS) (o : Oper) {ρ : Type} (κ : PV → Option ρ) (r : ρ) : Prop := ∃ p, κ p = some r ∧ ∀ m a w, Rep w0 N m S a w → ∃ v, (execOp a.eval o).run P w = .ok (.value v) w ∧ RepV m w0.heap.size w p v
theorem SoundV.sound {P : Program} {w0 : Org} {N : Nat} {S : AS} {id0 : Nat} {o : Oper} {ρ : Type} {κ : Eff → Option ρ} {r : ρ} (h : SoundV P w0 N S o (fun p => κ ⟨p, []⟩) r) : Sound P w0 N S id0 o κ r := by
  obtain ⟨p, h1, h2⟩ := h
  exact ⟨_, h1, Step.value h2⟩
theorem cond_some {α : Type} {b : Bool} {x y : Option α} {r : α} (h : (bif b then x else y) = some r) : b = true ∧ x = some r ∨ b = false ∧ y = some r := by cases b <;> simp_all

/-! ### whole numbers, strings, bools -/
section
variable {ρ : Type}
def binI (op : BinOp) (k : IntKind) (a b : Int) (κ : PV → Option ρ) : Option ρ := match op with
  | .lss => κ (.v (.bool (decide (a < b))))
  | .leq => κ (.v (.bool (decide (a ≤ b))))
  | .gtr => κ (.v (.bool (decide (b < a))))
  | .geq => κ (.v (.bool (decide (b ≤ a))))
  | .eql => κ (.v (.bool (decide (a = b))))
  | .neq => κ (.v (.bool (!decide (a = b))))
  | .add => κ (.v (.int k (k.wrap (a + b))))
  | .sub => κ (.v (.int k (k.wrap (a - b))))
  | .mul => κ (.v (.int k (k.wrap (a * b))))
  | .quo => bif decide (b = 0) then none else κ (.v (.int k (k.wrap (a.tdiv b))))
  | .rem => bif decide (b = 0) then none else κ (.v (.int k (a.tmod b)))
  | _ => none
def binS (op : BinOp) (a b : ByteArray) (κ : PV → Option ρ) : Option ρ := match op with
  | .eql => κ (.v (.bool (a.toList == b.toList)))
  | .neq => κ (.v (.bool (!(a.toList == b.toList))))
  | .add => bif decide (a.size + b.size ≤ 9223372036854775807) then κ (.v (.string (a ++ b))) else none
  | _ => none
end
/-- '==' of data without rows, as one Bool. -/
def eqLeaf : TypeDesc → PV → PV → Option Bool
  | .bool, .v (.bool a), .v (.bool b) => some (a == b)
  | .int _, .v (.int k a), .v (.int k' b) => bif decide (k = k') then some (a == b) else none
  | .string, .v (.string a), .v (.string b) => some (a.toList == b.toList)
  | _, _, _ => none
mutual
def eqB (P : Program) : Nat → TypeId → PV → PV → Option Bool
  | 0, _, _, _ => none
  | d + 1, t, x, y => match P.underlying t with
    | some (.struct fs) => match x, y with
      | .agg xs, .agg ys => bif P.stoodInHeld t then none else eqFs P d fs.toList xs ys
      | _, _ => none
    | some (.array n e) => match x, y with
      | .agg xs, .agg ys => match sizeB P e with
        | some sz => eqAs P d n e sz 0 xs ys
        | none => none
      | _, _ => none
    | some k => eqLeaf k x y
    | none => none
def eqFs (P : Program) : Nat → List Field → List PV → List PV → Option Bool
  | 0, _, _, _ => none
  | d + 1, fs, xs, ys => match fs with
    | [] => some true
    | f :: r => match partB P f.type xs f.offset, partB P f.type ys f.offset with
      | some a, some b => bif f.name == "_" then none else match eqB P d f.type a b with
        | some c => match r with
          | [] => some c
          | f' :: r' => match eqFs P d (f' :: r') xs ys with
            | some c' => some (c && c')
            | none => none
        | none => none
      | _, _ => none
def eqAs (P : Program) : Nat → Nat → TypeId → Nat → Nat → List PV → List PV → Option Bool
  | 0, _, _, _, _, _, _ => none
  | d + 1, n, e, sz, i, xs, ys => match n with
    | 0 => some true
    | n + 1 => match partB P e xs (i * sz), partB P e ys (i * sz) with
      | some a, some b => match eqB P d e a b with
        | some c => match n with
          | 0 => some c
          | n' + 1 => match eqAs P d (n' + 1) e sz (i + 1) xs ys with
            | some c' => some (c && c')
            | none => none
        | none => none
      | _, _ => none
end
/-! ### soundness -/
def Op.eqElems (D : Nat) (xs ys : Array Value) (e : TypeId) (sz : Nat) : Nat → Nat → Sem Bool
  | _, 0 => pure true
  | i, n + 1 => do
    let a ← part e xs (i * sz)
    let b ← part e ys (i * sz)
    let r ← Go.Op.equalIn D e a b
    if (!r) = true then pure false else Op.eqElems D xs ys e sz (i + 1) n
theorem run_equalIn_array {P : Program} (w : World) (D : Nat) (t e : TypeId) (n sz : Nat) (xs ys : Array Value) (ht : P.underlying t = some (.array n e)) (hs : sizeB P e = some sz) :
    (Go.Op.equalIn (D + 1) t (.agg xs) (.agg ys)).run P w = (Op.eqElems D xs ys e sz 0 n).run P w := by
  simp only [Go.Op.equalIn, Sem.run_bind, run_underlying ht, Result.andThen_ok, sizeB_ok hs]
  simp only [Std.Legacy.Range.forIn_eq_forIn_range', Std.Legacy.Range.size, Nat.sub_zero, Nat.add_sub_cancel, Nat.div_one]
  clear ht
  generalize 0 = i
  induction n generalizing i w with
  | zero => simp [Op.eqElems]
  | succ n ih =>
    rw [List.range'_succ, List.forIn_cons]
    simp only [Op.eqElems, Sem.run_bind]
    generalize (part e xs (i * sz)).run P w = r1
    cases r1 with
    | halt x w1 => simp [Result.andThen]
    | ok a w1 =>
      simp only [Result.andThen_ok]
      generalize (part e ys (i * sz)).run P w1 = r2
      cases r2 with
      | halt x w1 => simp [Result.andThen]
      | ok b w2 =>
        simp only [Result.andThen_ok]
        generalize (Go.Op.equalIn D e a b).run P w2 = r3
        cases r3 with
        | halt x w1 => simp [Result.andThen]
        | ok c w3 =>
          cases c
          · simp
          · simpa using ih w3 (i + 1)
theorem eqLeaf_ok {P : Program} {m : Nm} {B0 : Nat} {w : World} {d : TypeDesc} {t : TypeId} {x y : PV} {vx vy : Value} {c : Bool} (hu : P.underlying t = some d) (h : eqLeaf d x y = some c) (hx : RepV m B0 w x vx) (hy : RepV m B0 w y vy) (D : Nat) (W : World) : (Go.Op.equalIn (D + 1) t vx vy).run P W = .ok c W := by
  unfold eqLeaf at h
  split at h
  · cases hx; cases hy; cases h
    exact run_equalIn_bool' W D t _ _ hu
  · cases hx; cases hy
    rcases cond_some h with ⟨h1, h2⟩ | ⟨_, h2⟩
    · cases h2
      have := of_decide_eq_true h1
      subst this
      exact run_equalIn_int W D t _ _ _ _ hu
    · cases h2
  · cases hx; cases hy; cases h
    exact run_equalIn_string W D t _ _ hu
  · cases h
theorem run_eqFields_last {P : Program} {D : Nat} {xs ys : Array Value} {f : Field} {a b : Value} {c : Bool} {W : World} (hn : (f.name == "_") = false) (ha : (part f.type xs f.offset).run P W = .ok a W) (hb : (part f.type ys f.offset).run P W = .ok b W) (he : (Go.Op.equalIn D f.type a b).run P W = .ok c W) : (Go.Op.eqFields D xs ys [f]).run P W = .ok c W := by
  have hn' : f.name ≠ "_" := by simpa using hn
  simp only [Go.Op.eqFields, if_pos hn', Sem.run_bind, ha, hb, he, Result.andThen_ok]
  cases c <;> simp
theorem run_eqFields_cons {P : Program} {D : Nat} {xs ys : Array Value} {f : Field} {fs : List Field} {a b : Value} {c c' : Bool} {W : World} (hn : (f.name == "_") = false) (ha : (part f.type xs f.offset).run P W = .ok a W) (hb : (part f.type ys f.offset).run P W = .ok b W) (he : (Go.Op.equalIn D f.type a b).run P W = .ok c W) (hr : (Go.Op.eqFields D xs ys fs).run P W = .ok c' W) : (Go.Op.eqFields D xs ys (f :: fs)).run P W = .ok (c && c') W := by
  have hn' : f.name ≠ "_" := by simpa using hn
  rw [Go.Op.eqFields]
  simp only [if_pos hn', Sem.run_bind, ha, hb, he, Result.andThen_ok]
  cases c
  · simp
  · simpa using hr
mutual
theorem eqB_ok {P : Program} {m : Nm} {B0 : Nat} {w : World} : ∀ {d : Nat} {t : TypeId} {x y : PV} {vx vy : Value} {c : Bool}, eqB P d t x y = some c → RepV m B0 w x vx → RepV m B0 w y vy → ∀ (D : Nat), d ≤ D → ∀ W, (Go.Op.equalIn D t vx vy).run P W = .ok c W
  | 0, _, _, _, _, _, _, h, _, _, _, _, _ => by simp [eqB] at h
  | d + 1, t, x, y, vx, vy, c, h, hx, hy, D, hD, W => by
    obtain ⟨D, rfl⟩ : ∃ D', D = D' + 1 := ⟨D - 1, by omega⟩
    unfold eqB at h
    split at h
    · rename_i fs hu
      split at h
      · rename_i xs ys
        cases hx with | agg hx => cases hy with | agg hy =>
        rcases cond_some h with ⟨_, h2⟩ | ⟨h1, h2⟩
        · cases h2
        · have hf : P.fieldsOf t = fs := by simp [Program.fieldsOf, hu]
          rw [run_equalIn_struct W D t _ _ (by rw [hf]; exact hu) h1, hf]
          exact eqFs_ok h2 hx hy D (by omega) W
      · cases h
    · rename_i n e hu
      split at h
      · rename_i xs ys
        cases hx with | agg hx => cases hy with | agg hy =>
        split at h
        · rename_i sz hs
          rw [run_equalIn_array W D t e n sz _ _ hu hs]
          exact eqAs_ok h hx hy D (by omega) W
        · cases h
      · cases h
    · rename_i k hn1 hn2 hu
      exact eqLeaf_ok hu h hx hy D W
    · cases h
theorem eqFs_ok {P : Program} {m : Nm} {B0 : Nat} {w : World} : ∀ {d : Nat} {fs : List Field} {xs ys : List PV} {vs us : List Value} {c : Bool}, eqFs P d fs xs ys = some c → RepVs m B0 w xs vs → RepVs m B0 w ys us → ∀ (D : Nat), d ≤ D → ∀ W, (Go.Op.eqFields D vs.toArray us.toArray fs).run P W = .ok c W
  | 0, _, _, _, _, _, _, h, _, _, _, _, _ => by simp [eqFs] at h
  | d + 1, fs, xs, ys, vs, us, c, h, hx, hy, D, hD, W => by
    unfold eqFs at h
    split at h
    · cases h; simp [Go.Op.eqFields]
    · rename_i f r
      split at h
      · rename_i a b ha hb
        rcases cond_some h with ⟨_, h2⟩ | ⟨hn, h⟩
        · cases h2
        obtain ⟨va, hra, hva⟩ := partB_ok hx ha W
        obtain ⟨vb, hrb, hvb⟩ := partB_ok hy hb W
        split at h
        · rename_i c1 hc1
          have he := eqB_ok hc1 hva hvb D (by omega) W
          split at h
          · cases h
            exact run_eqFields_last hn hra hrb he
          · split at h
            · rename_i c2 hc2
              cases h
              exact run_eqFields_cons hn hra hrb he (eqFs_ok hc2 hx hy D (by omega) W)
            · cases h
        · cases h
      · cases h
theorem eqAs_ok {P : Program} {m : Nm} {B0 : Nat} {w : World} : ∀ {d n : Nat} {e : TypeId} {sz i : Nat} {xs ys : List PV} {vs us : List Value} {c : Bool}, eqAs P d n e sz i xs ys = some c → RepVs m B0 w xs vs → RepVs m B0 w ys us → ∀ (D : Nat), d ≤ D → ∀ W, (Op.eqElems D vs.toArray us.toArray e sz i n).run P W = .ok c W
  | 0, _, _, _, _, _, _, _, _, _, h, _, _, _, _, _ => by simp [eqAs] at h
  | d + 1, n, e, sz, i, xs, ys, vs, us, c, h, hx, hy, D, hD, W => by
    unfold eqAs at h
    split at h
    · cases h; simp [Op.eqElems]
    · rename_i n
      split at h
      · rename_i a b ha hb
        obtain ⟨va, hra, hva⟩ := partB_ok hx ha W
        obtain ⟨vb, hrb, hvb⟩ := partB_ok hy hb W
        split at h
        · rename_i c1 hc1
          have he := eqB_ok hc1 hva hvb D (by omega) W
          split at h
          · cases h
            simp only [Op.eqElems, Sem.run_bind, hra, hrb, he, Result.andThen_ok]
            cases c <;> simp
          · rename_i n' 
            split at h
            · rename_i c2 hc2
              cases h
              have hr := eqAs_ok hc2 hx hy D (by omega) W
              rw [Op.eqElems]
              simp only [Sem.run_bind, hra, hrb, he, Result.andThen_ok]
              cases c1
              · simp
              · simpa using hr
            · cases h
        · cases h
      · cases h
end
end Go.Proofs.YtggikacbelogcaaGreat.Ex
