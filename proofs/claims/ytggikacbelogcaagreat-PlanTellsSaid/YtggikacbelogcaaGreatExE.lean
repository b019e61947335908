/- An executor of translated code on abstract states, fifth part: more operations that yield a value and turn nothing. -/
import Derived.Test.YtggikacbelogcaaGreatExD
namespace Go.Proofs.YtggikacbelogcaaGreat.Ex
open Go Go.RowKit
set_option linter.unusedVariables false
set_option linter.unusedSimpArgs false
section
variable {P : Program} {w0 : Org} {w : World} {N : Nat} {S : AS} {o : Oper} {ρ : Type} {r : ρ} {ev : Operand → Value} {v : Value}
/-! one operand -/
def opUn (op : UnOp) (x : PV) (κ : PV → Option ρ) : Option ρ := match op, x with
  | .not, .v (.bool b) => κ (.v (.bool (!b)))
  | .neg, .v (.int k n) => κ (.v (.int k (k.wrap (0 - n))))
  | _, _ => none
theorem un_ok {op : UnOp} {x : Operand} {t : TypeId} {κ : PV → Option ρ} (ho : o.op = .unOp op t x) (h : opUn op (S.ev x) κ = some r) : SoundV P w0 N S o κ r := by
  unfold opUn at h
  split at h
  · rename_i b hx
    exact ⟨_, h, fun m a w hr => ⟨_, by unfold execOp; simp only [ho, ev_v hr hx]; rfl, .v⟩⟩
  · rename_i k n hx
    exact ⟨_, h, fun m a w hr => ⟨_, by unfold execOp; simp only [ho, ev_v hr hx]; rfl, .v⟩⟩
  · cases h
def opConv (P : Program) (src dst : TypeId) (x : PV) (κ : PV → Option ρ) : Option ρ := match P.underlying src, P.underlying dst, x with
  | some (.int _), some (.int k), .v (.int _ n) => κ (.v (.int k (k.wrap n)))
  | some .string, some .string, .v (.string s) => κ (.v (.string s))
  | _, _, _ => none
theorem conv_ok {x : Operand} {t t' : TypeId} {κ : PV → Option ρ} (ho : o.op = .convert t t' x) (h : opConv P t t' (S.ev x) κ = some r) : SoundV P w0 N S o κ r := by
  unfold opConv at h
  split at h
  · rename_i k0 k k1 n h1 h2 hx
    refine ⟨_, h, fun m a w hr => ⟨_, run_of (s := convert t t' (a.eval x)) (by unfold execOp; simp only [ho]) ?_, .v⟩⟩
    rw [ev_v hr hx]
    simp only [convert, Sem.run_bind, run_underlying h1, run_underlying h2, Result.andThen_ok]
    rfl
  · rename_i s h1 h2 hx
    refine ⟨_, h, fun m a w hr => ⟨_, run_of (s := convert t t' (a.eval x)) (by unfold execOp; simp only [ho]) ?_, .v⟩⟩
    rw [ev_v hr hx]
    simp only [convert, Sem.run_bind, run_underlying h1, run_underlying h2, Result.andThen_ok]
    rfl
  · cases h
def opExtract (x : PV) (i : Nat) (κ : PV → Option ρ) : Option ρ := match x with
  | .tup vs => match vs[i]? with
    | some p => κ p
    | none => none
  | _ => none
theorem extract_ok {x : Operand} {i : Nat} {κ : PV → Option ρ} (ho : o.op = .extract x i) (h : opExtract (S.ev x) i κ = some r) : SoundV P w0 N S o κ r := by
  unfold opExtract at h
  split at h
  · rename_i vs hx
    split at h
    · rename_i p hp
      refine ⟨_, h, fun m a w hr => ?_⟩
      have h1 := hr.ev x
      rw [hx] at h1
      generalize hz : a.eval x = z at h1
      cases h1 with | tup h1 =>
      obtain ⟨v, hv, hrv⟩ := h1.get hp
      refine ⟨v, run_of (s := Instr.extract (a.eval x) i) (by unfold execOp; simp only [ho]) ?_, hrv⟩
      rw [hz]
      simp [Instr.extract, hv]
    · cases h
  · cases h
def opField (P : Program) (t : TypeId) (x : PV) (i : Nat) (κ : PV → Option ρ) : Option ρ := match x.cells, P.underlying t with
  | some cs, some (.struct fs) => match fs[i]? with
    | some f => match x with
      | .agg _ => match partB P f.type cs f.offset with
        | some p => κ p
        | none => none
      | .v (.agg _) => match partB P f.type cs f.offset with
        | some p => κ p
        | none => none
      | _ => none
    | none => none
  | _, _ => none
theorem field_ok {x : Operand} {t : TypeId} {i : Nat} {κ : PV → Option ρ} (ho : o.op = .field t x i) (h : opField P t (S.ev x) i κ = some r) : SoundV P w0 N S o κ r := by
  unfold opField at h
  split at h
  · rename_i cs fs hc hu
    split at h
    · rename_i f hf
      have key : ∀ p, partB P f.type cs f.offset = some p → (∃ l, S.ev x = .agg l) ∨ (∃ l, S.ev x = .v (.agg l)) → ∀ m a w, Rep w0 N m S a w → ∃ v, (execOp a.eval o).run P w = .ok (.value v) w ∧ RepV m w0.heap.size w p v := fun p hp hx m a w hr => by
        have h1 := hr.ev x
        have h2 := PV.cells_ok h1 hc
        obtain ⟨l, hl⟩ : ∃ l, a.eval x = .agg l := by
          rcases hx with ⟨l, hl⟩ | ⟨l, hl⟩
          · rw [hl] at h1
            generalize a.eval x = z at h1
            cases h1
            exact ⟨_, rfl⟩
          · exact ⟨_, ev_v hr hl⟩
        rw [hl] at h2
        obtain ⟨v, hv, hrv⟩ := partB_ok h2 hp w
        refine ⟨v, run_of (s := Instr.field t (a.eval x) i) (by unfold execOp; simp only [ho]) ?_, hrv⟩
        rw [hl]
        simp only [Instr.field, Sem.run_bind, run_underlying hu, Result.andThen_ok, hf]
        simpa [asAgg, Value.cells] using hv
      split at h
      · rename_i l hx
        split at h
        · rename_i p hp; exact ⟨_, h, key p hp (.inl ⟨_, hx⟩)⟩
        · cases h
      · rename_i l hx
        split at h
        · rename_i p hp; exact ⟨_, h, key p hp (.inr ⟨_, hx⟩)⟩
        · cases h
      · cases h
    · cases h
  · cases h
/-- A place moved on. -/
def PV.moved (x : PV) (n : Nat) : Option PV := match x with
  | .ptr i off => some (.ptr i (off + n))
  | .rptr fr s x off => some (.rptr fr s x (off + n))
  | .eptr i j sz off => some (.eptr i j sz (off + n))
  | .v (.pointer (some a)) => match a with
    | ⟨b, o, none⟩ => some (.v (.pointer (some ⟨b, o + n, none⟩)))
    | _ => none
  | _ => none
theorem moved_ok {m : Nm} {B0 : Nat} {x p : PV} {n : Nat} {v : Value} (h : x.moved n = some p) (hx : RepV m B0 w x v) : ∃ b off, v = .pointer (some ⟨b, off, none⟩) ∧ RepV m B0 w p (.pointer (some ⟨b, off + n, none⟩)) := by
  unfold PV.moved at h
  split at h
  · cases h; cases hx; exact ⟨_, _, rfl, .ptr⟩
  · cases h; cases hx with | rptr hx => exact ⟨_, _, rfl, by rw [Nat.add_assoc]; exact .rptr hx⟩
  · cases h; cases hx with | eptr hx h0 h1 => exact ⟨_, _, rfl, by rw [Nat.add_assoc]; exact .eptr hx h0 h1⟩
  · split at h
    · cases h; cases hx; exact ⟨_, _, rfl, .v⟩
    · cases h
  · cases h
def opFieldAddr (P : Program) (t : TypeId) (x : PV) (i : Nat) (κ : PV → Option ρ) : Option ρ := match P.underlying t with
  | some (.struct fs) => match fs[i]? with
    | some f => match sizeB P f.type with
      | some sz => bif Nat.beq sz 0 then none else match x.moved f.offset with
        | some p => κ p
        | none => none
      | none => none
    | none => none
  | _ => none
theorem fieldAddr_ok {x : Operand} {t : TypeId} {i : Nat} {κ : PV → Option ρ} (ho : o.op = .fieldAddr t x i) (h : opFieldAddr P t (S.ev x) i κ = some r) : SoundV P w0 N S o κ r := by
  unfold opFieldAddr at h
  split at h
  · rename_i fs hu
    split at h
    · rename_i f hf
      split at h
      · rename_i sz hs
        rcases cond_some h with ⟨_, h2⟩ | ⟨hz, h⟩
        · cases h2
        split at h
        · rename_i p hp
          refine ⟨_, h, fun m a w hr => ?_⟩
          obtain ⟨b, off, hv, hrv⟩ := moved_ok hp (hr.ev x)
          have hz' : sz ≠ 0 := Nat.ne_of_beq_eq_false hz
          refine ⟨_, run_of (s := Instr.fieldAt t (a.eval x) i) (by unfold execOp; simp only [ho]) ?_, hrv⟩
          rw [hv]
          simp only [Instr.fieldAt, Instr.sureAddr, Sem.run_bind, run_underlying hu, Result.andThen_ok, hf, Sem.run_pure, fieldPlace, sizeB_ok hs, if_neg hz', Addr.add_mid]
        · cases h
      · cases h
    · cases h
  · cases h
theorem evs_ok {m : Nm} {a : Act} (hr : Rep w0 N m S a w) : ∀ l : List Operand, RepVs m w0.heap.size w (l.map S.ev) (l.map a.eval)
  | [] => .nil
  | x :: l => .cons (hr.ev x) (evs_ok hr l)
def opFunc (S : AS) (fn : Fn) (first caps : Array Operand) (κ : PV → Option ρ) : Option ρ := match fn with
  | .func f => bif first.isEmpty then κ (.fn f (caps.toList.map S.ev)) else none
  | _ => none
theorem func_ok {fn : Fn} {first caps : Array Operand} {κ : PV → Option ρ} (ho : o.op = .makeFunc fn first caps) (h : opFunc S fn first caps κ = some r) : SoundV P w0 N S o κ r := by
  unfold opFunc at h
  split at h
  · rename_i f
    rcases cond_some h with ⟨he, h⟩ | ⟨_, h2⟩
    · refine ⟨_, h, fun m a w hr => ⟨.func (.func f) #[] (caps.toList.map a.eval).toArray, ?_, .fn (evs_ok hr _)⟩⟩
      have he' : first = #[] := by simpa using he
      refine run_of (s := Instr.makeFunc (.func f) (first.map a.eval) (caps.map a.eval)) (by unfold execOp; simp only [ho]) ?_
      subst he'
      have : caps.map a.eval = (caps.toList.map a.eval).toArray := by
        apply Array.ext'
        simp
      rw [this]
      simp [Instr.makeFunc]
    · cases h2
  · cases h
def opNil (x : PV) (κ : PV → Option ρ) : Option ρ := match x with
  | .ptr _ _ => κ x
  | .rptr _ _ _ _ => κ x
  | .eptr _ _ _ _ => κ x
  | .fn _ _ => κ x
  | .v (.pointer (some _)) => κ x
  | _ => none
theorem nil_ok {x : Operand} {κ : PV → Option ρ} (ho : o.op = .nilCheck x) (h : opNil (S.ev x) κ = some r) : SoundV P w0 N S o κ r := by
  have key : ∀ m a w, Rep w0 N m S a w → (∃ ad, a.eval x = .pointer (some ad)) ∨ (∃ f cs, a.eval x = .func (.func f) #[] cs) → (execOp a.eval o).run P w = .ok (.value (a.eval x)) w := fun m a w hr hx => by
    unfold execOp
    simp only [ho]
    rcases hx with ⟨ad, hx⟩ | ⟨f, cs, hx⟩ <;> rw [hx] <;> rfl
  unfold opNil at h
  split at h
  · rename_i hx
    refine ⟨_, h, fun m a w hr => ⟨_, key m a w hr ?_, hr.ev x⟩⟩
    have h1 := hr.ev x
    rw [hx] at h1
    generalize a.eval x = z at h1 ⊢
    cases h1
    exact .inl ⟨_, rfl⟩
  · rename_i hx
    refine ⟨_, h, fun m a w hr => ⟨_, key m a w hr ?_, hr.ev x⟩⟩
    have h1 := hr.ev x
    rw [hx] at h1
    generalize a.eval x = z at h1 ⊢
    cases h1
    exact .inl ⟨_, rfl⟩
  · rename_i hx
    refine ⟨_, h, fun m a w hr => ⟨_, key m a w hr ?_, hr.ev x⟩⟩
    have h1 := hr.ev x
    rw [hx] at h1
    generalize a.eval x = z at h1 ⊢
    cases h1
    exact .inl ⟨_, rfl⟩
  · rename_i hx
    refine ⟨_, h, fun m a w hr => ⟨_, key m a w hr ?_, hr.ev x⟩⟩
    have h1 := hr.ev x
    rw [hx] at h1
    generalize a.eval x = z at h1 ⊢
    cases h1
    exact .inr ⟨_, _, rfl⟩
  · rename_i hx
    refine ⟨_, h, fun m a w hr => ⟨_, key m a w hr (.inl ⟨_, ev_v hr hx⟩), hr.ev x⟩⟩
  · cases h
/-! structs put together -/
def fillB (place : Nat → Option (Nat × Nat)) (cells : List PV) : List (Nat × PV) → Option (List PV)
  | [] => some cells
  | e :: rest => match place e.1, e.2.cells with
    | some (off, size), some vc => bif Nat.beq vc.length size && Nat.ble (off + vc.length) cells.length then fillB place (cells.take off ++ (vc ++ cells.drop (off + vc.length))) rest else none
    | _, _ => none
theorem set_take (l : List Value) (n : Nat) (c : Value) (h : n < l.length) : (l.set n c).take (n + 1) = l.take n ++ [c] := by
  rw [List.set_eq_take_append_cons_drop, if_pos h, List.take_append]
  simp [Nat.min_eq_left (Nat.le_of_lt h), List.take_take]
theorem foldl_set (off : Nat) : ∀ (vc : List Value) (j : Nat) (cells : Array Value), off + j + vc.length ≤ cells.toList.length → ((vc.zipIdx j).foldl (fun cs (c, j) => cs.setIfInBounds (off + j) c) cells).toList = cells.toList.take (off + j) ++ (vc ++ cells.toList.drop (off + j + vc.length))
  | [], j, cells, h => by simp
  | c :: vc, j, cells, h => by
    simp only [List.length_cons] at h
    have hlt : off + j < cells.toList.length := by omega
    rw [List.zipIdx_cons, List.foldl_cons, foldl_set off vc (j + 1) _ (by rw [Array.toList_setIfInBounds, List.length_set]; omega)]
    rw [Array.toList_setIfInBounds, ← Nat.add_assoc, set_take _ _ _ hlt, List.drop_set_of_lt (by omega)]
    simp only [List.append_assoc, List.length_cons, List.cons_append, List.nil_append]
    congr 4
    omega
theorem fillB_ok {m : Nm} {B0 : Nat} {place : Nat → Option (Nat × Nat)} : ∀ {ps : List (Nat × PV)} {vps : List (Nat × Value)} {cells out : List PV} {vs : List Value}, fillB place cells ps = some out → RepVs m B0 w cells vs → ps.map (·.1) = vps.map (·.1) → RepVs m B0 w (ps.map (·.2)) (vps.map (·.2)) → ∃ us, Instr.fill place vs.toArray vps = some us.toArray ∧ RepVs m B0 w out us
  | [], vps, cells, out, vs, h, hc, hm, hp => by
    have : vps = [] := by simpa using hm.symm
    subst this
    simp only [fillB, Option.some.injEq] at h
    subst h
    exact ⟨vs, rfl, hc⟩
  | e :: ps, vps, cells, out, vs, h, hc, hm, hp => by
    cases vps with
    | nil => simp at hm
    | cons e' vps =>
      obtain ⟨i, p⟩ := e
      obtain ⟨i', v⟩ := e'
      simp only [List.map_cons, List.cons.injEq] at hm hp
      obtain ⟨rfl, hm⟩ := hm
      cases hp with | cons hv hp =>
      simp only [fillB] at h
      split at h
      · rename_i off size vc hpl hvc
        rcases cond_some h with ⟨hb, h⟩ | ⟨_, h2⟩
        · rw [Bool.and_eq_true] at hb
          have hb1 := Nat.eq_of_beq_eq_true hb.1
          have hb2 := Nat.le_of_ble_eq_true hb.2
          have hcv := PV.cells_ok hv hvc
          have hl := hcv.len
          have hlc := hc.len
          simp only [Array.length_toList] at hl
          have hset := foldl_set off v.cells.toList 0 vs.toArray (by simp; omega)
          simp only [Nat.add_zero] at hset
          have hzip : (v.cells.zipIdx.foldl (fun cs (c, j) => cs.setIfInBounds (off + j) c) vs.toArray) = (vs.take off ++ (v.cells.toList ++ vs.drop (off + v.cells.toList.length))).toArray := by
            apply Array.ext'
            rw [← Array.foldl_toList, Array.toList_zipIdx]
            exact hset
          obtain ⟨us, h1, h2⟩ := fillB_ok (vs := vs.take off ++ (v.cells.toList ++ vs.drop (off + v.cells.toList.length))) h (by
            rw [hcv.len]
            exact (hc.take _).append (hcv.append (hc.drop _))) hm hp
          refine ⟨us, ?_, h2⟩
          simp only [Instr.fill, hpl]
          rw [if_neg (by simp; omega), hzip]
          exact h1
        · cases h2
      · cases h
end
end Go.Proofs.YtggikacbelogcaaGreat.Ex
