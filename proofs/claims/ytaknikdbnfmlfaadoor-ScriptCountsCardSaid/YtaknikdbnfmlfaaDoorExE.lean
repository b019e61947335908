/- An executor of translated code on abstract states, fifth part: more operations that yield a value and turn nothing. -/
import Derived.Test.YtaknikdbnfmlfaaDoorExA
import Derived.Laws.IdiomCopy
import Derived.Laws.Slices
namespace Go.Proofs.YtaknikdbnfmlfaaDoor.Ex
open Go Go.RowKit
set_option linter.unusedVariables false
set_option linter.unusedSimpArgs false
section
variable {P : Program} {w0 : Org} {w : World} {N : Nat} {S : AS} {o : Oper} {ρ : Type} {r : ρ} {ev : Operand → Value} {v : Value}
/-! one operand -/
def opUn (op : UnOp) (x : PV) (κ : PV → Option ρ) : Option ρ := match op, x with
  | .not, .v (.bool b) => κ (.v (.bool (!b)))
  | .neg, .v (.int k n) => κ (.v (.int k (k.wrap (0 - n))))
  | _, _ => none
theorem un_ok {op : UnOp} {x : Operand} {t : TypeId} {κ : PV → Option ρ} (ho : o.op = .unOp op t x) (h : opUn op (S.ev x) κ = some r) : SoundV P w0 N S o κ r := by
  unfold opUn at h
  split at h
  · rename_i b hx
    exact ⟨_, h, fun m a w hr => ⟨_, by unfold execOp; simp only [ho, ev_v hr hx]; rfl, .v⟩⟩
  · rename_i k n hx
    exact ⟨_, h, fun m a w hr => ⟨_, by unfold execOp; simp only [ho, ev_v hr hx]; rfl, .v⟩⟩
  · cases h
def opConv (P : Program) (src dst : TypeId) (x : PV) (κ : PV → Option ρ) : Option ρ := match P.underlying src, P.underlying dst, x with
  | some (.int _), some (.int k), .v (.int _ n) => κ (.v (.int k (k.wrap n)))
  | some .string, some .string, .v (.string s) => κ (.v (.string s))
  | _, _, _ => none
theorem conv_ok {x : Operand} {t t' : TypeId} {κ : PV → Option ρ} (ho : o.op = .convert t t' x) (h : opConv P t t' (S.ev x) κ = some r) : SoundV P w0 N S o κ r := by
  unfold opConv at h
  split at h
  · rename_i k0 k k1 n h1 h2 hx
    refine ⟨_, h, fun m a w hr => ⟨_, run_of (s := convert t t' (a.eval x)) (by unfold execOp; simp only [ho]) ?_, .v⟩⟩
    rw [ev_v hr hx]
    simp only [convert, Sem.run_bind, run_underlying h1, run_underlying h2, Result.andThen_ok]
    rfl
  · rename_i s h1 h2 hx
    refine ⟨_, h, fun m a w hr => ⟨_, run_of (s := convert t t' (a.eval x)) (by unfold execOp; simp only [ho]) ?_, .v⟩⟩
    rw [ev_v hr hx]
    simp only [convert, Sem.run_bind, run_underlying h1, run_underlying h2, Result.andThen_ok]
    rfl
  · cases h
def opExtract (x : PV) (i : Nat) (κ : PV → Option ρ) : Option ρ := match x with
  | .tup vs => match vs[i]? with
    | some p => κ p
    | none => none
  | _ => none
theorem extract_ok {x : Operand} {i : Nat} {κ : PV → Option ρ} (ho : o.op = .extract x i) (h : opExtract (S.ev x) i κ = some r) : SoundV P w0 N S o κ r := by
  unfold opExtract at h
  split at h
  · rename_i vs hx
    split at h
    · rename_i p hp
      refine ⟨_, h, fun m a w hr => ?_⟩
      have h1 := hr.ev x
      rw [hx] at h1
      generalize hz : a.eval x = z at h1
      cases h1 with | tup h1 =>
      obtain ⟨v, hv, hrv⟩ := h1.get hp
      refine ⟨v, run_of (s := Instr.extract (a.eval x) i) (by unfold execOp; simp only [ho]) ?_, hrv⟩
      rw [hz]
      simp [Instr.extract, hv]
    · cases h
  · cases h
def opField (P : Program) (t : TypeId) (x : PV) (i : Nat) (κ : PV → Option ρ) : Option ρ := match x.cells, P.underlying t with
  | some cs, some (.struct fs) => match fs[i]? with
    | some f => match x with
      | .agg _ => match partB P f.type cs f.offset with
        | some p => κ p
        | none => none
      | .v (.agg _) => match partB P f.type cs f.offset with
        | some p => κ p
        | none => none
      | _ => none
    | none => none
  | _, _ => none
theorem field_ok {x : Operand} {t : TypeId} {i : Nat} {κ : PV → Option ρ} (ho : o.op = .field t x i) (h : opField P t (S.ev x) i κ = some r) : SoundV P w0 N S o κ r := by
  unfold opField at h
  split at h
  · rename_i cs fs hc hu
    split at h
    · rename_i f hf
      have key : ∀ p, partB P f.type cs f.offset = some p → (∃ l, S.ev x = .agg l) ∨ (∃ l, S.ev x = .v (.agg l)) → ∀ m a w, Rep w0 N m S a w → ∃ v, (execOp a.eval o).run P w = .ok (.value v) w ∧ RepV m w0.heap.size w p v := fun p hp hx m a w hr => by
        have h1 := hr.ev x
        have h2 := PV.cells_ok h1 hc
        obtain ⟨l, hl⟩ : ∃ l, a.eval x = .agg l := by
          rcases hx with ⟨l, hl⟩ | ⟨l, hl⟩
          · rw [hl] at h1
            generalize a.eval x = z at h1
            cases h1
            exact ⟨_, rfl⟩
          · exact ⟨_, ev_v hr hl⟩
        rw [hl] at h2
        obtain ⟨v, hv, hrv⟩ := partB_ok h2 hp w
        refine ⟨v, run_of (s := Instr.field t (a.eval x) i) (by unfold execOp; simp only [ho]) ?_, hrv⟩
        rw [hl]
        simp only [Instr.field, Sem.run_bind, run_underlying hu, Result.andThen_ok, hf]
        simpa [asAgg, Value.cells] using hv
      split at h
      · rename_i l hx
        split at h
        · rename_i p hp; exact ⟨_, h, key p hp (.inl ⟨_, hx⟩)⟩
        · cases h
      · rename_i l hx
        split at h
        · rename_i p hp; exact ⟨_, h, key p hp (.inr ⟨_, hx⟩)⟩
        · cases h
      · cases h
    · cases h
  · cases h
/-- A place moved on. -/
def PV.moved (x : PV) (n : Nat) : Option PV := match x with
  | .ptr i off => some (.ptr i (off + n))
  | .rptr fr s x off => some (.rptr fr s x (off + n))
  | .eptr i j sz off => some (.eptr i j sz (off + n))
  | .v (.pointer (some a)) => match a with
    | ⟨b, o, none⟩ => some (.v (.pointer (some ⟨b, o + n, none⟩)))
    | _ => none
  | _ => none
theorem moved_ok {m : Nm} {B0 : Nat} {x p : PV} {n : Nat} {v : Value} (h : x.moved n = some p) (hx : RepV m B0 w x v) : ∃ b off, v = .pointer (some ⟨b, off, none⟩) ∧ RepV m B0 w p (.pointer (some ⟨b, off + n, none⟩)) := by
  unfold PV.moved at h
  split at h
  · cases h; cases hx; exact ⟨_, _, rfl, .ptr⟩
  · cases h; cases hx with | rptr hx => exact ⟨_, _, rfl, by rw [Nat.add_assoc]; exact .rptr hx⟩
  · cases h; cases hx with | eptr hx h0 h1 => exact ⟨_, _, rfl, by rw [Nat.add_assoc]; exact .eptr hx h0 h1⟩
  · split at h
    · cases h; cases hx; exact ⟨_, _, rfl, .v⟩
    · cases h
  · cases h
def opFieldAddr (P : Program) (t : TypeId) (x : PV) (i : Nat) (κ : PV → Option ρ) : Option ρ := match P.underlying t with
  | some (.struct fs) => match fs[i]? with
    | some f => match sizeB P f.type with
      | some sz => bif Nat.beq sz 0 then none else match x.moved f.offset with
        | some p => κ p
        | none => none
      | none => none
    | none => none
  | _ => none
theorem fieldAddr_ok {x : Operand} {t : TypeId} {i : Nat} {κ : PV → Option ρ} (ho : o.op = .fieldAddr t x i) (h : opFieldAddr P t (S.ev x) i κ = some r) : SoundV P w0 N S o κ r := by
  unfold opFieldAddr at h
  split at h
  · rename_i fs hu
    split at h
    · rename_i f hf
      split at h
      · rename_i sz hs
        rcases cond_some h with ⟨_, h2⟩ | ⟨hz, h⟩
        · cases h2
        split at h
        · rename_i p hp
          refine ⟨_, h, fun m a w hr => ?_⟩
          obtain ⟨b, off, hv, hrv⟩ := moved_ok hp (hr.ev x)
          have hz' : sz ≠ 0 := Nat.ne_of_beq_eq_false hz
          refine ⟨_, run_of (s := Instr.fieldAt t (a.eval x) i) (by unfold execOp; simp only [ho]) ?_, hrv⟩
          rw [hv]
          simp only [Instr.fieldAt, Instr.sureAddr, Sem.run_bind, run_underlying hu, Result.andThen_ok, hf, Sem.run_pure, fieldPlace, sizeB_ok hs, if_neg hz', Addr.add_mid]
        · cases h
      · cases h
    · cases h
  · cases h
theorem evs_ok {m : Nm} {a : Act} (hr : Rep w0 N m S a w) : ∀ l : List Operand, RepVs m w0.heap.size w (l.map S.ev) (l.map a.eval)
  | [] => .nil
  | x :: l => .cons (hr.ev x) (evs_ok hr l)
def opFunc (S : AS) (fn : Fn) (first caps : Array Operand) (κ : PV → Option ρ) : Option ρ := match fn with
  | .func f => bif first.isEmpty then κ (.fn f (caps.toList.map S.ev)) else none
  | _ => none
theorem func_ok {fn : Fn} {first caps : Array Operand} {κ : PV → Option ρ} (ho : o.op = .makeFunc fn first caps) (h : opFunc S fn first caps κ = some r) : SoundV P w0 N S o κ r := by
  unfold opFunc at h
  split at h
  · rename_i f
    rcases cond_some h with ⟨he, h⟩ | ⟨_, h2⟩
    · refine ⟨_, h, fun m a w hr => ⟨.func (.func f) #[] (caps.toList.map a.eval).toArray, ?_, .fn (evs_ok hr _)⟩⟩
      have he' : first = #[] := by simpa using he
      refine run_of (s := Instr.makeFunc (.func f) (first.map a.eval) (caps.map a.eval)) (by unfold execOp; simp only [ho]) ?_
      subst he'
      have : caps.map a.eval = (caps.toList.map a.eval).toArray := by
        apply Array.ext'
        simp
      rw [this]
      simp [Instr.makeFunc]
    · cases h2
  · cases h
def opNil (x : PV) (κ : PV → Option ρ) : Option ρ := match x with
  | .ptr _ _ => κ x
  | .rptr _ _ _ _ => κ x
  | .eptr _ _ _ _ => κ x
  | .fn _ _ => κ x
  | .v (.pointer (some _)) => κ x
  | _ => none
theorem nil_ok {x : Operand} {κ : PV → Option ρ} (ho : o.op = .nilCheck x) (h : opNil (S.ev x) κ = some r) : SoundV P w0 N S o κ r := by
  have key : ∀ m a w, Rep w0 N m S a w → (∃ ad, a.eval x = .pointer (some ad)) ∨ (∃ f cs, a.eval x = .func (.func f) #[] cs) → (execOp a.eval o).run P w = .ok (.value (a.eval x)) w := fun m a w hr hx => by
    unfold execOp
    simp only [ho]
    rcases hx with ⟨ad, hx⟩ | ⟨f, cs, hx⟩ <;> rw [hx] <;> rfl
  unfold opNil at h
  split at h
  · rename_i hx
    refine ⟨_, h, fun m a w hr => ⟨_, key m a w hr ?_, hr.ev x⟩⟩
    have h1 := hr.ev x
    rw [hx] at h1
    generalize a.eval x = z at h1 ⊢
    cases h1
    exact .inl ⟨_, rfl⟩
  · rename_i hx
    refine ⟨_, h, fun m a w hr => ⟨_, key m a w hr ?_, hr.ev x⟩⟩
    have h1 := hr.ev x
    rw [hx] at h1
    generalize a.eval x = z at h1 ⊢
    cases h1
    exact .inl ⟨_, rfl⟩
  · rename_i hx
    refine ⟨_, h, fun m a w hr => ⟨_, key m a w hr ?_, hr.ev x⟩⟩
    have h1 := hr.ev x
    rw [hx] at h1
    generalize a.eval x = z at h1 ⊢
    cases h1
    exact .inl ⟨_, rfl⟩
  · rename_i hx
    refine ⟨_, h, fun m a w hr => ⟨_, key m a w hr ?_, hr.ev x⟩⟩
    have h1 := hr.ev x
    rw [hx] at h1
    generalize a.eval x = z at h1 ⊢
    cases h1
    exact .inr ⟨_, _, rfl⟩
  · rename_i hx
    refine ⟨_, h, fun m a w hr => ⟨_, key m a w hr (.inl ⟨_, ev_v hr hx⟩), hr.ev x⟩⟩
  · cases h
/-! structs put together -/
def fillB (place : Nat → Option (Nat × Nat)) (cells : List PV) : List (Nat × PV) → Option (List PV)
  | [] => some cells
  | e :: rest => match place e.1, e.2.cells with
    | some (off, size), some vc => bif Nat.beq vc.length size && Nat.ble (off + vc.length) cells.length then fillB place (cells.take off ++ (vc ++ cells.drop (off + vc.length))) rest else none
    | _, _ => none
theorem set_take (l : List Value) (n : Nat) (c : Value) (h : n < l.length) : (l.set n c).take (n + 1) = l.take n ++ [c] := by
  rw [List.set_eq_take_append_cons_drop, if_pos h, List.take_append]
  simp [Nat.min_eq_left (Nat.le_of_lt h), List.take_take]
theorem foldl_set (off : Nat) : ∀ (vc : List Value) (j : Nat) (cells : Array Value), off + j + vc.length ≤ cells.toList.length → ((vc.zipIdx j).foldl (fun cs (c, j) => cs.setIfInBounds (off + j) c) cells).toList = cells.toList.take (off + j) ++ (vc ++ cells.toList.drop (off + j + vc.length))
  | [], j, cells, h => by simp
  | c :: vc, j, cells, h => by
    simp only [List.length_cons] at h
    have hlt : off + j < cells.toList.length := by omega
    rw [List.zipIdx_cons, List.foldl_cons, foldl_set off vc (j + 1) _ (by rw [Array.toList_setIfInBounds, List.length_set]; omega)]
    rw [Array.toList_setIfInBounds, ← Nat.add_assoc, set_take _ _ _ hlt, List.drop_set_of_lt (by omega)]
    simp only [List.append_assoc, List.length_cons, List.cons_append, List.nil_append]
    congr 4
    omega
theorem fillB_ok {m : Nm} {B0 : Nat} {place : Nat → Option (Nat × Nat)} : ∀ {ps : List (Nat × PV)} {vps : List (Nat × Value)} {cells out : List PV} {vs : List Value}, fillB place cells ps = some out → RepVs m B0 w cells vs → ps.map (·.1) = vps.map (·.1) → RepVs m B0 w (ps.map (·.2)) (vps.map (·.2)) → ∃ us, Instr.fill place vs.toArray vps = some us.toArray ∧ RepVs m B0 w out us
  | [], vps, cells, out, vs, h, hc, hm, hp => by
    have : vps = [] := by simpa using hm.symm
    subst this
    simp only [fillB, Option.some.injEq] at h
    subst h
    exact ⟨vs, rfl, hc⟩
  | e :: ps, vps, cells, out, vs, h, hc, hm, hp => by
    cases vps with
    | nil => simp at hm
    | cons e' vps =>
      obtain ⟨i, p⟩ := e
      obtain ⟨i', v⟩ := e'
      simp only [List.map_cons, List.cons.injEq] at hm hp
      obtain ⟨rfl, hm⟩ := hm
      cases hp with | cons hv hp =>
      simp only [fillB] at h
      split at h
      · rename_i off size vc hpl hvc
        rcases cond_some h with ⟨hb, h⟩ | ⟨_, h2⟩
        · rw [Bool.and_eq_true] at hb
          have hb1 := Nat.eq_of_beq_eq_true hb.1
          have hb2 := Nat.le_of_ble_eq_true hb.2
          have hcv := PV.cells_ok hv hvc
          have hl := hcv.len
          have hlc := hc.len
          simp only [Array.length_toList] at hl
          have hset := foldl_set off v.cells.toList 0 vs.toArray (by simp; omega)
          simp only [Nat.add_zero] at hset
          have hzip : (v.cells.zipIdx.foldl (fun cs (c, j) => cs.setIfInBounds (off + j) c) vs.toArray) = (vs.take off ++ (v.cells.toList ++ vs.drop (off + v.cells.toList.length))).toArray := by
            apply Array.ext'
            rw [← Array.foldl_toList, Array.toList_zipIdx]
            exact hset
          obtain ⟨us, h1, h2⟩ := fillB_ok (vs := vs.take off ++ (v.cells.toList ++ vs.drop (off + v.cells.toList.length))) h (by
            rw [hcv.len]
            exact (hc.take _).append (hcv.append (hc.drop _))) hm hp
          refine ⟨us, ?_, h2⟩
          simp only [Instr.fill, hpl]
          rw [if_neg (by simp; omega), hzip]
          exact h1
        · cases h2
      · cases h
end
end Go.Proofs.YtaknikdbnfmlfaaDoor.Ex
/- An executor of translated code on abstract states, sixth part: structs put together, lengths, the lesser and the greater; what is loaded. -/
namespace Go.Proofs.YtaknikdbnfmlfaaDoor.Ex
open Go Go.RowKit
set_option linter.unusedVariables false
set_option linter.unusedSimpArgs false
section
variable {P : Program} {w0 : Org} {w : World} {N : Nat} {S : AS} {o : Oper} {ρ : Type} {r : ρ} {ev : Operand → Value} {v : Value}
def buildB (P : Program) (t : TypeId) (parts : List (Nat × PV)) : Option (List PV) := match P.info? t, P.underlying t with
  | some it, some (.array _ e) => match it.zero, P.info? e with
    | some z, some ie => fillB (fun i => some (i * ie.size, ie.size)) (z.cells.toList.map .v) parts
    | _, _ => none
  | some it, some (.struct fields) => match it.zero, fields.toList.mapM (fun f => (P.info? f.type).map fun i => (f.offset, i.size)) with
    | some z, some places => fillB (places.toArray[·]?) (z.cells.toList.map .v) parts
    | _, _ => none
  | _, _ => none
theorem buildB_ok {m : Nm} {B0 : Nat} {t : TypeId} {ps : List (Nat × PV)} {vps : List (Nat × Value)} {out : List PV} (h : buildB P t ps = some out) (hm : ps.map (·.1) = vps.map (·.1)) (hp : RepVs m B0 w (ps.map (·.2)) (vps.map (·.2))) : ∃ us : List Value, P.built t vps = some us.toArray ∧ RepVs m B0 w out us := by
  unfold buildB at h
  unfold Program.built
  split at h
  · rename_i it n e hit hu
    split at h
    · rename_i z ie hz hie
      obtain ⟨us, h1, h2⟩ := fillB_ok h (RepVs.exact (m := m) (B0 := B0) (w := w) z.cells.toList) hm hp
      exact ⟨us, by simpa [hit, hu, hz, hie] using h1, h2⟩
    · cases h
  · rename_i it fields hit hu
    split at h
    · rename_i z places hz hpl
      obtain ⟨us, h1, h2⟩ := fillB_ok h (RepVs.exact (m := m) (B0 := B0) (w := w) z.cells.toList) hm hp
      exact ⟨us, by simpa [hit, hu, hz, hpl] using h1, h2⟩
    · cases h
  · cases h
def opBuild (P : Program) (S : AS) (t : TypeId) (parts : Array (Nat × Operand)) (κ : PV → Option ρ) : Option ρ := match buildB P t (parts.toList.map fun e => (e.1, S.ev e.2)) with
  | some cs => κ (.agg cs)
  | none => none
theorem evps_ok {m : Nm} {a : Act} (hr : Rep w0 N m S a w) : ∀ l : List (Nat × Operand), RepVs m w0.heap.size w ((l.map fun e => (e.1, S.ev e.2)).map (·.2)) ((l.map fun e => (e.1, a.eval e.2)).map (·.2))
  | [] => .nil
  | x :: l => .cons (hr.ev x.2) (evps_ok hr l)
theorem build_ok {t : TypeId} {parts : Array (Nat × Operand)} {κ : PV → Option ρ} (ho : o.op = .build t parts) (h : opBuild P S t parts κ = some r) : SoundV P w0 N S o κ r := by
  unfold opBuild at h
  split at h
  · rename_i cs hc
    refine ⟨_, h, fun m a w hr => ?_⟩
    obtain ⟨us, h1, h2⟩ := buildB_ok (vps := parts.toList.map fun e => (e.1, a.eval e.2)) hc (by simp) (evps_ok hr _)
    refine ⟨.agg us.toArray, run_of (s := Instr.build t (parts.map fun (i, x) => (i, a.eval x))) (by unfold execOp; simp only [ho]) ?_, .agg h2⟩
    refine run_build w t _ _ ?_
    simpa using h1
  · cases h
/-! builtins -/
def rowLen (S : AS) (x : PV) : Option Nat := match x with
  | .row _ _ l => some l.length
  | .own i => match S.σ i with
    | .own _ _ _ l => some l.length
    | _ => none
  | .v (.slice none n c) => some n
  | _ => none
theorem rowLen_ok {m : Nm} {a : Act} {x : PV} {v : Value} {n : Nat} (hr : Rep w0 N m S a w) (hx : RepV m w0.heap.size w x v) (h : rowLen S x = some n) : ∃ A c, v = .slice A n c := by
  unfold rowLen at h
  split at h
  · cases h
    cases hx with | row hx =>
    simp only [SKIs] at hx
    obtain ⟨A, c, rfl, _⟩ := hx
    exact ⟨A, c, rfl⟩
  · rename_i i
    split at h
    · rename_i fr T s l hσ
      cases h
      cases hx with | own hx =>
      have hb := hr.heap.blk i
      rw [hσ] at hb
      obtain ⟨xs, ho, _⟩ := hb
      rcases ho.2 with ⟨h1, h2⟩ | ⟨g, cap, cur, h1, _⟩
      · rw [hx] at h1
        cases h1
        rw [h2]
        exact ⟨_, _, rfl⟩
      · rw [hx] at h1
        cases h1
        exact ⟨_, _, rfl⟩
    · cases h
  · cases h
    cases hx
    exact ⟨_, _, rfl⟩
  · cases h
def opLen (P : Program) (S : AS) (t : TypeId) (x : PV) (κ : PV → Option ρ) : Option ρ := match P.underlying t with
  | some (.slice _) => match rowLen S x with
    | some n => κ (.v (.int .i64 (n : Int)))
    | none => none
  | some .string => match x with
    | .v (.string s) => κ (.v (.int .i64 (s.size : Int)))
    | _ => none
  | some (.array n _) => κ (.v (.int .i64 (n : Int)))
  | _ => none
theorem len_ok {x : Operand} {t : TypeId} {ts : Array TypeId} {κ : PV → Option ρ} (ho : o.op = .call { callee := .builtin .len, args := #[x], argTypes := ts }) (ht : ts[0]? = some t) (h : opLen P S t (S.ev x) κ = some r) : SoundV P w0 N S o κ r := by
  unfold opLen at h
  split at h
  · rename_i e hu
    split at h
    · rename_i n hn
      refine ⟨_, h, fun m a w hr => ⟨_, ?_, .v⟩⟩
      obtain ⟨A, c, hv⟩ := rowLen_ok hr (hr.ev x) hn
      unfold execOp
      simp only [ho]
      simp [resolve, invoke, builtin, Builtin.len_, ht, hv, Sem.run_bind, run_underlying hu, goInt]
    · cases h
  · rename_i hu
    split at h
    · rename_i s hx
      refine ⟨_, h, fun m a w hr => ⟨_, ?_, .v⟩⟩
      unfold execOp
      simp only [ho]
      simp [resolve, invoke, builtin, Builtin.len_, ht, ev_v hr hx, Sem.run_bind, run_underlying hu, goInt]
    · cases h
  · rename_i n e hu
    refine ⟨_, h, fun m a w hr => ⟨_, ?_, .v⟩⟩
    unfold execOp
    simp only [ho]
    simp [resolve, invoke, builtin, Builtin.len_, ht, Sem.run_bind, run_underlying hu, goInt]
  · cases h
def opMin (gt : Bool) (x y : PV) (κ : PV → Option ρ) : Option ρ := match x, y with
  | .v (.int k a), .v (.int k' b) => bif gt then κ (.v (.int k (mx a b))) else κ (.v (.int k (mn a b)))
  | _, _ => none
theorem min_ok {x y : Operand} {ts : Array TypeId} {gt : Bool} {κ : PV → Option ρ} (ho : o.op = .call { callee := .builtin (if gt then .max else .min), args := #[x, y], argTypes := ts }) (h : opMin gt (S.ev x) (S.ev y) κ = some r) : SoundV P w0 N S o κ r := by
  unfold opMin at h
  split at h
  · rename_i k a k' b hx hy
    rcases cond_some h with ⟨rfl, h⟩ | ⟨rfl, h⟩
    · refine ⟨_, h, fun m ac w hr => ⟨_, ?_, .v⟩⟩
      unfold execOp
      simp only [ho, if_true]
      simp [resolve, invoke, builtin, Builtin.max_, Builtin.max2, ev_v hr hx, ev_v hr hy, Sem.run_bind, mx]
    · refine ⟨_, h, fun m ac w hr => ⟨_, ?_, .v⟩⟩
      unfold execOp
      simp only [ho]
      simp [resolve, invoke, builtin, Builtin.min_, Builtin.min2, ev_v hr hx, ev_v hr hy, Sem.run_bind, mn]
  · cases h
/-! ### data taken apart -/
mutual
def cellK (fr : Bool) : (k : SK) → k.ty → PV
  | .int k, n => .v (.int k n)
  | .bool, b => .v (.bool b)
  | .str, s => .v (.string s)
  | .row s, l => .row fr s l
  | .ptr s, x => .rptr fr s x 0
  | .adr, x => .v (.pointer (some ⟨x.1, x.2, none⟩))
  | .fnc f, _ => .fn f []
def cellsT (fr : Bool) : (s : List SK) → Tup s → List PV
  | [] => fun _ => []
  | k :: r => match r with
    | [] => fun x => [cellK fr k x]
    | k' :: r' => fun x => cellK fr k x.1 :: cellsT fr (k' :: r') x.2
end
theorem cellK_ok {m : Nm} {B0 : Nat} {fr : Bool} {k : SK} {x : k.ty} {v : Value} (h : SKIs (okOf m B0 fr) w k x v) : RepV m B0 w (cellK fr k x) v := by
  cases k with
  | int k => simp only [SKIs] at h; subst h; simp only [cellK]; exact .v
  | bool => simp only [SKIs] at h; subst h; simp only [cellK]; exact .v
  | str => simp only [SKIs] at h; subst h; simp only [cellK]; exact .v
  | row s => simp only [cellK]; exact .row h
  | ptr s =>
    have h0 := h
    simp only [SKIs] at h
    obtain ⟨b, o, cs, rfl, _⟩ := h
    simp only [cellK]
    exact .rptr h0
  | adr => simp only [SKIs] at h; subst h; simp only [cellK]; exact .v
  | fnc f => simp only [SKIs] at h; subst h; simp only [cellK]; exact .fn .nil
theorem cellsT_ok {m : Nm} {B0 : Nat} {fr : Bool} : ∀ {s : List SK} {x : Tup s} {vs : List Value}, TupIs (okOf m B0 fr) w s x vs → RepVs m B0 w (cellsT fr s x) vs
  | [], x, vs, h => by
    simp only [TupIs] at h
    subst h
    simp only [cellsT]
    exact .nil
  | [k], x, vs, h => by
    simp only [TupIs] at h
    obtain ⟨u, rfl, h⟩ := h
    simp only [cellsT]
    exact .cons (cellK_ok h) .nil
  | k :: k' :: r, x, vs, h => by
    simp only [TupIs] at h
    obtain ⟨u, us, rfl, h1, h2⟩ := h
    simp only [cellsT]
    exact .cons (cellK_ok h1) (cellsT_ok h2)
/-! ### what is loaded -/
theorem CellsAt.range {b o : Nat} {cs : List Value} (h : CellsAt w b o cs) : w.rangeAt b o cs := h
theorem load_cells {m : Nm} {B0 : Nat} {t : TypeId} {cs : List PV} {vs : List Value} {b o off : Nat} {p : PV} (h : RepVs m B0 w cs vs) (hc : CellsAt w b o vs) (hp : partB P t cs off = some p) : ∃ v, (Instr.loadAt t (.pointer (some ⟨b, o + off, none⟩))).run P w = .ok v w ∧ RepV m B0 w p v := by
  unfold partB at hp
  cases ha : aggB P t with
  | none => rw [ha] at hp; cases hp
  | some bb =>
    rw [ha] at hp
    cases bb with
    | true =>
      simp only at hp
      cases hs : sizeB P t with
      | none => rw [hs] at hp; cases hp
      | some n =>
        rw [hs] at hp
        cases hble : Nat.ble (off + n) cs.length with
        | false => simp [hble] at hp
        | true =>
        simp only [hble, cond_true, Option.some.injEq] at hp
        subst hp
        have hle := Nat.le_of_ble_eq_true hble
        have hlv := h.len
        have hl : ((vs.drop off).take n).length = n := by rw [List.length_take, List.length_drop]; omega
        refine ⟨_, ?_, .agg ((h.drop off).take n)⟩
        obtain ⟨d, hu, hrow⟩ : ∃ d, P.underlying t = some d ∧ d.isRow = true := by
          unfold aggB at ha
          cases hu : P.underlying t with
          | none => rw [hu] at ha; cases ha
          | some d => rw [hu] at ha; exact ⟨d, rfl, by cases d <;> simp_all <;> rfl⟩
        refine run_loadAt_mid w b (o + off) t _ d (fun j v hv => ?_) hu hrow (by rw [hl]; exact hs)
        have hj : j < ((vs.drop off).take n).length := (List.getElem?_eq_some_iff.1 hv).1
        rw [List.getElem?_take_of_lt (by omega), List.getElem?_drop] at hv
        have := hc (off + j) v hv
        rwa [← Nat.add_assoc] at this
    | false =>
      simp only at hp
      obtain ⟨v, hv, hr⟩ := h.get hp
      refine ⟨v, ?_, hr⟩
      have hcc := hc off v hv
      simp only [Instr.loadAt, Instr.sureAddr, loadVar, Sem.run_bind, Sem.run_pure, Result.andThen_ok, aggB_ok ha, Bool.false_eq_true, if_false, load, Sem.run, hcc]
theorem CellsAt.of_block {b : Nat} {vs : List Value} {T : TypeId} (h : w.heap[b]? = some (.cells vs.toArray T (0, 0))) : CellsAt w b 0 vs := fun j u hu => by
  simp [World.cell?, h, hu]
def opLoad (P : Program) (S : AS) (t : TypeId) (x : PV) (κ : PV → Option ρ) : Option ρ := match x with
  | .ptr i off => match S.σ i with
    | .box _ cs => match partB P t cs off with
      | some p => κ p
      | none => none
    | _ => none
  | .rptr fr s d off => match partB P t (cellsT fr s d) off with
    | some p => κ p
    | none => none
  | .eptr i j sz off => match S.σ i with
    | .own fr _ s l => bif Nat.beq sz s.length then match partB P t (cellsT fr s (l.getD j.toNat (zT s))) off with
      | some p => κ p
      | none => none else none
    | _ => none
  | _ => none
theorem own_cells {B0 : Nat} {T : TypeId} {s : List SK} {l : List (Tup s)} {xs : List Value} {g n c : Nat} {v : Value} {j : Nat} {ok : Nat → Prop} (h : w.ownsRow B0 T s.length v l.length xs) (hR : RowsIs ok w s l xs) (hv : v = .slice (some ⟨g, 0, none⟩) n c) (hj : j < n) :
    n = l.length ∧ CellsAt w g (j * s.length) ((xs.drop (j * s.length)).take s.length) ∧ TupIs ok w s (l.getD j (zT s)) ((xs.drop (j * s.length)).take s.length) := by
  have hn : n = l.length := by
    rcases h.2 with ⟨h1, h2⟩ | ⟨g', cap, cur, h1, _⟩
    · rw [hv] at h1; cases h1
    · rw [hv] at h1; cases h1; rfl
  subst hn
  refine ⟨rfl, fun k u hu => ?_, ?_⟩
  · have hk : k < s.length := by
      have := (List.getElem?_eq_some_iff.1 hu).1
      rw [List.length_take] at this
      omega
    rw [List.getElem?_take_of_lt hk, List.getElem?_drop] at hu
    have := h.cells (g := g) (by rw [hv]; rfl) _ _ hu
    rwa [Addr.add_mid, Nat.zero_add] at this
  · have := hR j (l[j]) (List.getElem?_eq_getElem hj)
    rw [List.getD_eq_getElem?_getD, List.getElem?_eq_getElem hj]
    exact this
theorem load_ok {x : Operand} {t : TypeId} {κ : PV → Option ρ} (ho : o.op = .load t x) (h : opLoad P S t (S.ev x) κ = some r) : SoundV P w0 N S o κ r := by
  unfold opLoad at h
  split at h
  · rename_i i off hx
    split at h
    · rename_i T cs hσ
      split at h
      · rename_i p hp
        refine ⟨_, h, fun m a w hr => ?_⟩
        have h1 := hr.ev x
        rw [hx] at h1
        generalize hz : a.eval x = z at h1
        cases h1
        have hb := hr.heap.blk i
        rw [hσ] at hb
        obtain ⟨_, _, vs, hvs, hh⟩ := hb
        obtain ⟨v, h2, h3⟩ := load_cells hvs (CellsAt.of_block hh) hp
        rw [Nat.zero_add] at h2
        exact ⟨v, run_of (s := Instr.loadAt t (a.eval x)) (by unfold execOp; simp only [ho]) (by rw [hz]; exact h2), h3⟩
      · cases h
    · cases h
  · rename_i fr s d off hx
    split at h
    · rename_i p hp
      refine ⟨_, h, fun m a w hr => ?_⟩
      have h1 := hr.ev x
      rw [hx] at h1
      generalize hz : a.eval x = z at h1
      cases h1 with | rptr h1 =>
      simp only [SKIs] at h1
      obtain ⟨b, o', cs, he, hok, hl, hcs, ht⟩ := h1
      cases he
      obtain ⟨v, h2, h3⟩ := load_cells (cellsT_ok ht) hcs hp
      exact ⟨v, run_of (s := Instr.loadAt t (a.eval x)) (by unfold execOp; simp only [ho]) (by rw [hz]; exact h2), h3⟩
    · cases h
  · rename_i i j sz off hx
    split at h
    · rename_i fr T s l hσ
      rcases cond_some h with ⟨hsz, hh⟩ | ⟨_, h2⟩
      · clear h
        split at hh
        · rename_i p hp
          have := Nat.eq_of_beq_eq_true hsz
          subst this
          refine ⟨_, hh, fun m a w hr => ?_⟩
          have h1 := hr.ev x
          rw [hx] at h1
          generalize hz : a.eval x = z at h1
          cases h1 with | eptr hv h0 hj =>
          have hb := hr.heap.blk i
          rw [hσ] at hb
          obtain ⟨xs, how, hR, _⟩ := hb
          obtain ⟨_, hc, ht⟩ := own_cells (j := j.toNat) how hR hv (by omega)
          obtain ⟨v, h2, h3⟩ := load_cells (cellsT_ok ht) hc hp
          exact ⟨v, run_of (s := Instr.loadAt t (a.eval x)) (by unfold execOp; simp only [ho]) (by rw [hz]; exact h2), h3⟩
        · cases hh
      · cases h2
    · cases h
  · cases h
end
end Go.Proofs.YtaknikdbnfmlfaaDoor.Ex
/- An executor of translated code on abstract states, seventh part: new blocks, stores, places in rows, cuts. -/
namespace Go.Proofs.YtaknikdbnfmlfaaDoor.Ex
open Go Go.RowKit
set_option linter.unusedVariables false
set_option linter.unusedSimpArgs false
theorem own_move' {w w1 : World} {base : Nat} {e : TypeId} {size n : Nat} {v : Value} {xs : List Value} (h : w.ownsRow base e size v n xs) (hm : ∀ k, v.ownBlock = some k → w1.heap[k]? = w.heap[k]?) : w1.ownsRow base e size v n xs := by
  obtain ⟨h1, h2⟩ := h
  refine ⟨h1, ?_⟩
  rcases h2 with h2 | ⟨g, cap, cur, rfl, hg, hh, r⟩
  · exact .inl h2
  · exact .inr ⟨g, cap, cur, rfl, hg, (hm g (by simp [Value.ownBlock])).trans hh, r⟩
theorem RowsIs.move {ok ok' : Nat → Prop} {w w' : World} {s : List SK} {l : List (Tup s)} {xs : List Value} (hs : Stays ok ok' w w') (h : RowsIs ok w s l xs) : RowsIs ok' w' s l xs := fun i x hx => TupIs.move hs (h i x hx)
/-- A block that stands. -/
theorem BlkIs.move {p : Nat → Bool} {m m' : Nm} {B0 : Nat} {w w' : World} {i : Nat} {b : ABlk} (hg : Grows p m m' w w') (hi : b.ids p = true) (hp : b = .no ∨ p i = true) (hk : ∀ k, blkOf m i b k → w'.heap[k]? = w.heap[k]? ∧ ¬ m'.F k) (h : BlkIs m B0 w i b) : BlkIs m' B0 w' i b := by
  cases b with
  | no => trivial
  | box T cs =>
    obtain ⟨h1, h2, vs, h3, h4⟩ := h
    have hpi : p i = true := hp.resolve_left (by simp)
    have hk' := hk _ rfl
    simp only [BlkIs]
    rw [hg.b i hpi]
    exact ⟨h1, hk'.2, vs, RepVs.move hg h3 hi, hk'.1.trans h4⟩
  | own fr T s l =>
    obtain ⟨xs, h1, h2, h3⟩ := h
    have hpi : p i = true := hp.resolve_left (by simp)
    simp only [BlkIs]
    rw [hg.v i hpi]
    exact ⟨xs, own_move' h1 (fun k hq => (hk k hq).1), RowsIs.move (hg.ok _ _) h2, fun k hq => (hk k hq).2⟩
  | mset l =>
    obtain ⟨h1, h2, es, cl, h3, h4⟩ := h
    have hpi : p i = true := hp.resolve_left (by simp)
    have hk' := hk _ rfl
    simp only [BlkIs]
    rw [hg.b i hpi]
    exact ⟨h1, hk'.2, es, cl, hk'.1.trans h3, h4⟩
  | obj n x j =>
    obtain ⟨h1, h2⟩ := h
    have hpi : p i = true := hp.resolve_left (by simp)
    simp only [BlkIs]
    rw [hg.b i hpi, hg.v j hi]
    refine ⟨fun k hf => ⟨(h1 k hf).1, ?_, (hk k hf).2⟩, OIs_move h2 (fun k hf => (hk k hf).1) hg.F⟩
    have h3 := (hk k hf).1
    rw [Array.getElem?_eq_getElem (h1 k hf).2.1] at h3
    exact (Array.getElem?_eq_some_iff.1 h3).1
theorem blkOf.same {p : Nat → Bool} {m m' : Nm} {w w' : World} {i : Nat} {b : ABlk} (hg : Grows p m m' w w') (hi : b.ids p = true) (hp : b = .no ∨ p i = true) : blkOf m' i b = blkOf m i b := by
  cases b with
  | no => rfl
  | box T cs => simp only [blkOf]; rw [hg.b i (hp.resolve_left (by simp))]
  | mset l => simp only [blkOf]; rw [hg.b i (hp.resolve_left (by simp))]
  | own fr T s l => simp only [blkOf]; rw [hg.v i (hp.resolve_left (by simp))]
  | obj n x j => simp only [blkOf]; rw [hg.v j hi]
theorem blk_lt {w0 : Org} {w : World} {m : Nm} {σ : Nat → ABlk} (h : Heap w0 m σ w) {i k : Nat} (hk : blkOf m i (σ i) k) : k < w.heap.size ∧ ¬ m.F k ∧ w0.heap.size ≤ k := by
  have hb := h.blk i
  cases hσ : σ i with
  | no => rw [hσ] at hk; cases hk
  | box T cs =>
    rw [hσ] at hk hb
    cases hk
    obtain ⟨h1, h2, vs, h3, h4⟩ := hb
    exact ⟨(Array.getElem?_eq_some_iff.1 h4).1, h2, h1⟩
  | mset l =>
    rw [hσ] at hk hb
    cases hk
    obtain ⟨h1, h2, es, cl, h3, h4⟩ := hb
    exact ⟨(Array.getElem?_eq_some_iff.1 h3).1, h2, h1⟩
  | own fr T s l =>
    rw [hσ] at hk hb
    obtain ⟨xs, h1, h2, h3⟩ := hb
    have := h1.lt k hk
    exact ⟨this.2, h3 k hk, this.1⟩
  | obj n x j =>
    rw [hσ] at hk hb
    obtain ⟨h1, h2⟩ := hb
    have := h1 k hk
    exact ⟨this.2.1, this.2.2, this.1⟩
/-- The blocks behind a step: those that U names anew are told; all others stand. -/
theorem Heap.step {w0 : Org} {w w' : World} {m m' : Nm} {σ σ' : Nat → ABlk} {p : Nat → Bool} (U : Nat → Prop) (h : Heap w0 m σ w) (hg : Grows p m m' w w') (hids : ∀ i, (σ i).ids p = true) (hp : ∀ i, ¬ U i → σ' i = σ i ∧ (σ i = .no ∨ p i = true))
    (hst : ∀ i k, ¬ U i → blkOf m i (σ i) k → w'.heap[k]? = w.heap[k]? ∧ ¬ m'.F k) (hU : ∀ i, U i → BlkIs m' w0.heap.size w' i (σ' i))
    (hap : ∀ i j k, i ≠ j → U i → blkOf m' i (σ' i) k → blkOf m' j (σ' j) k → False) (hF : ∀ k, m'.F k → k < w'.heap.size) (hb : Below w0.heap.size w0.toWorld w') : Heap w0 m' σ' w' := by
  refine ⟨fun i => ?_, fun i j k hij hi hj => ?_, hF, hb, fun k ob hk => ⟨(hg.F k (h.kept k ob hk).1).1, (hg.F k (h.kept k ob hk).1).2.trans (h.kept k ob hk).2⟩⟩
  · by_cases hu : U i
    · exact hU i hu
    · obtain ⟨h1, h2⟩ := hp i hu
      rw [h1]
      exact BlkIs.move hg (hids i) h2 (fun k hk => hst i k hu hk) (h.blk i)
  · by_cases hui : U i
    · exact hap i j k hij hui hi hj
    · by_cases huj : U j
      · exact hap j i k (Ne.symm hij) huj hj hi
      · obtain ⟨h1, h2⟩ := hp i hui
        obtain ⟨h3, h4⟩ := hp j huj
        rw [h1, blkOf.same hg (hids i) h2] at hi
        rw [h3, blkOf.same hg (hids j) h4] at hj
        exact h.apart i j k hij hi hj
theorem Fresh.p {id0 : Nat} {s : AS} (h : Fresh id0 s) (i : Nat) : s.σ i = .no ∨ old id0 i = true := by
  cases ho : old id0 i with
  | true => exact .inr rfl
  | false => exact .inl (h.no i ho)
theorem old_new {id0 k : Nat} (hk : k < 8) : old id0 (id0 + k) = false := by
  unfold old
  have h1 : Nat.blt (id0 + k) id0 = false := by
    cases h : Nat.blt (id0 + k) id0 with
    | false => rfl
    | true => have := Nat.le_of_ble_eq_true h; omega
  have h2 : Nat.ble (id0 + 8) (id0 + k) = false := by
    cases h : Nat.ble (id0 + 8) (id0 + k) with
    | false => rfl
    | true => have := Nat.le_of_ble_eq_true h; omega
  rw [h1, h2]; rfl
theorem old_ne {id0 k i : Nat} (hk : k < 8) (h : old id0 i = true) : i ≠ id0 + k := fun e => by
  rw [e, old_new hk] at h
  cases h
theorem updσ_one (σ : Nat → ABlk) (i : Nat) (b : ABlk) (j : Nat) : updσ σ [(i, b)] j = if j = i then b else σ j := by
  show (bif Nat.beq j i then b else σ j) = _
  by_cases h : j = i
  · subst h; simp
  · have hb : Nat.beq j i = false := by
      cases hq : Nat.beq j i with
      | true => exact absurd (Nat.eq_of_beq_eq_true hq) h
      | false => rfl
    simp [hb, h]
def setAt {α : Type} (f : Nat → α) (i : Nat) (x : α) : Nat → α := fun j => if j = i then x else f j
theorem setAt_self {α : Type} (f : Nat → α) (i : Nat) (x : α) : setAt f i x i = x := by simp [setAt]
theorem setAt_ne {α : Type} {f : Nat → α} {i j : Nat} {x : α} (h : j ≠ i) : setAt f i x j = f j := by simp [setAt, h]
/-- A new box. -/
theorem Heap.newbox {w0 : Org} {w : World} {m : Nm} {s : AS} {id0 : Nat} {T : TypeId} {cs : List PV} {vs : List Value} (h : Heap w0 m s.σ w) (hf : Fresh id0 s) (hr : RepVs m w0.heap.size w cs vs) (hi : idsL (old id0) cs = true) :
    ∃ m', Grows (old id0) m m' w (w.alloc (.cells vs.toArray T)) ∧ Heap w0 m' (updσ s.σ [(id0, .box T cs)]) (w.alloc (.cells vs.toArray T)) ∧ m'.b id0 = w.heap.size := by
  let m' : Nm := ⟨m.v, setAt m.b id0 w.heap.size, m.F⟩
  have hg : Grows (old id0) m m' w (w.alloc (.cells vs.toArray T)) := ⟨fun _ _ => rfl, fun i hi => setAt_ne (old_ne (k := 0) (by decide) hi), fun b hb => ⟨hb, Below.heap_alloc w _ b (h.flt b hb)⟩⟩
  refine ⟨m', hg, ?_, setAt_self _ _ _⟩
  have hb0 : w0.heap.size ≤ w.heap.size := h.below.size
  refine Heap.step (fun i => i = id0) h hg hf.σ (fun i hi => ⟨by rw [updσ_one, if_neg hi], hf.p i⟩) (fun i k hi hk => ⟨Below.heap_alloc w _ k (blk_lt h hk).1, (blk_lt h hk).2.1⟩) (fun i hi' => ?_) (fun i j k hij hi' h1 h2 => ?_) (fun k hk => Nat.lt_of_lt_of_le (h.flt k hk) (by simp)) (h.below.alloc hb0 _)
  · subst hi'
    rw [updσ_one, if_pos rfl]
    refine ⟨by show w0.heap.size ≤ setAt m.b i w.heap.size i; rw [setAt_self]; exact hb0, by show ¬ m.F (setAt m.b i w.heap.size i); rw [setAt_self]; exact fun hh => absurd (h.flt _ hh) (by omega), vs, RepVs.move hg hr hi, ?_⟩
    show (w.alloc _).heap[setAt m.b i w.heap.size i]? = _
    rw [setAt_self]
    exact Array.getElem?_push_size
  · subst hi'
    rw [updσ_one, if_pos rfl] at h1
    have h1' : w.heap.size = k := by
      have : setAt m.b i w.heap.size i = k := Eq.symm h1
      rwa [setAt_self] at this
    rw [updσ_one, if_neg (Ne.symm hij)] at h2
    have h3 : blkOf m' j (s.σ j) = blkOf m j (s.σ j) := blkOf.same hg (hf.σ j) (hf.p j)
    rw [h3] at h2
    have := (blk_lt h h2).1
    omega
section
variable {P : Program} {w0 : Org} {w : World} {N : Nat} {S : AS} {o : Oper} {ρ : Type} {r : ρ} {id0 : Nat}
def opNew (id0 : Nat) (T : TypeId) (cs : List PV) (κ : Eff → Option ρ) : Option ρ := bif idsL (old id0) cs then κ ⟨.ptr id0 0, [(id0, .box T cs)]⟩ else none
theorem new_ok {T : TypeId} {cs : List PV} {κ : Eff → Option ρ} (h : opNew id0 T cs κ = some r) (hrun : ∀ m a w, Rep w0 N m S a w → ∃ vs : List Value, RepVs m w0.heap.size w cs vs ∧ (execOp a.eval o).run P w = .ok (.value (.pointer (some ⟨w.heap.size, 0, none⟩))) (w.alloc (.cells vs.toArray T))) : Sound P w0 N S id0 o κ r := by
  unfold opNew at h
  rcases cond_some h with ⟨hi, h⟩ | ⟨_, h2⟩
  · refine ⟨_, h, ?_⟩
    intro S' m a w hl hf hr K Q hK
    obtain ⟨vs, hvs, hrun⟩ := hrun m a w (hr.le hl)
    obtain ⟨m', hg, hh, hb⟩ := Heap.newbox (T := T) hr.heap hf hvs hi
    unfold Oper.wp
    rw [hrun, Oper.upon_value]
    refine hK m' _ _ hg hh ?_
    have : (⟨w.heap.size, 0, none⟩ : Addr) = ⟨m'.b id0, 0, none⟩ := by rw [hb]
    rw [this]
    exact .ptr
  · cases h2
def opAlloc (P : Program) (id0 : Nat) (T : TypeId) (κ : Eff → Option ρ) : Option ρ := match zeroB P T with
  | some z => opNew id0 T (z.cells.toList.map .v) κ
  | none => none
theorem alloc_ok {T : TypeId} {κ : Eff → Option ρ} (ho : o.op = .alloc T) (h : opAlloc P id0 T κ = some r) : Sound P w0 N S id0 o κ r := by
  unfold opAlloc at h
  split at h
  · rename_i z hz
    refine new_ok h (fun m a w hr => ⟨z.cells.toList, RepVs.exact _, ?_⟩)
    refine (run_of_w (s := Instr.alloc T true (.tuple #[])) (by unfold execOp; simp only [ho]) ?_)
    simp only [Instr.alloc, Sem.run_bind, zeroB_ok hz, Result.andThen_ok]
    rfl
  · cases h
def opBox (S : AS) (id0 : Nat) (T : TypeId) (x : PV) (κ : Eff → Option ρ) : Option ρ := match x.cells with
  | some cs => opNew id0 T cs κ
  | none => none
theorem box_ok {T : TypeId} {x : Operand} {κ : Eff → Option ρ} (ho : o.op = .box T x) (h : opBox S id0 T (S.ev x) κ = some r) : Sound P w0 N S id0 o κ r := by
  unfold opBox at h
  split at h
  · rename_i cs hc
    refine new_ok h (fun m a w hr => ⟨(a.eval x).cells.toList, PV.cells_ok (hr.ev x) hc, ?_⟩)
    unfold execOp
    simp only [ho]
    rfl
  · cases h
end
end Go.Proofs.YtaknikdbnfmlfaaDoor.Ex
/- An executor of translated code on abstract states, eighth part: stores, places in rows, cuts. -/
namespace Go.Proofs.YtaknikdbnfmlfaaDoor.Ex
open Go Go.RowKit
set_option linter.unusedVariables false
set_option linter.unusedSimpArgs false
/-! ### cells set -/
def setFrom (cs : Array Value) : Nat → List Value → Array Value
  | _, [] => cs
  | o, v :: r => setFrom (cs.setIfInBounds o v) (o + 1) r
theorem setFrom_toList : ∀ (vs : List Value) (o : Nat) (cs : Array Value), o + vs.length ≤ cs.toList.length → (setFrom cs o vs).toList = cs.toList.take o ++ (vs ++ cs.toList.drop (o + vs.length))
  | [], o, cs, h => by simp [setFrom]
  | v :: r, o, cs, h => by
    simp only [List.length_cons] at h
    rw [setFrom, setFrom_toList r (o + 1) _ (by rw [Array.toList_setIfInBounds, List.length_set]; omega), Array.toList_setIfInBounds, set_take _ _ _ (by omega), List.drop_set_of_lt (by omega)]
    simp only [List.append_assoc, List.length_cons, List.cons_append, List.nil_append]
    congr 4
    omega
theorem heap_setCell {w : World} {b o : Nat} {cs : Array Value} {T : TypeId} {v : Value} (h : w.heap[b]? = some (.cells cs T (0, 0))) : (w.setCell ⟨b, o, none⟩ v).heap[b]? = some (.cells (cs.setIfInBounds o v) T (0, 0)) := by
  have hlt := (Array.getElem?_eq_some_iff.1 h).1
  have hv := (Array.getElem?_eq_some_iff.1 h).2
  simp only [World.setCell]
  rw [Array.getElem?_eq_getElem (by simpa using hlt), Array.getElem_modify]
  simp [hv]
theorem heap_setCells {b : Nat} {T : TypeId} : ∀ (vs : List Value) (o : Nat) (w : World) (cs : Array Value), w.heap[b]? = some (.cells cs T (0, 0)) → (w.setCells b o vs).heap[b]? = some (.cells (setFrom cs o vs) T (0, 0))
  | [], _, _, _, h => h
  | v :: r, o, w, cs, h => heap_setCells r (o + 1) _ _ (heap_setCell h)
theorem heap_setCells_other {b i : Nat} (hi : i ≠ b) : ∀ (vs : List Value) (o : Nat) (w : World), (w.setCells b o vs).heap[i]? = w.heap[i]?
  | [], _, _ => rfl
  | v :: r, o, w => (heap_setCells_other hi r (o + 1) _).trans (Below.heap_setCell _ _ _ _ hi)
theorem size_setCells {b : Nat} : ∀ (vs : List Value) (o : Nat) (w : World), (w.setCells b o vs).heap.size = w.heap.size
  | [], _, _ => rfl
  | v :: r, o, w => (size_setCells r (o + 1) _).trans (by simp [World.setCell])
theorem below_setCells {b B : Nat} (hB : B ≤ b) : ∀ (vs : List Value) (o : Nat) (w : World), Below B w (w.setCells b o vs)
  | [], _, w => Below.refl _ _
  | v :: r, o, w => ((Below.refl B w).setCell (p := ⟨b, o, none⟩) hB v).trans (below_setCells hB r (o + 1) _)
theorem blk_cell {w : World} {b i : Nat} {cs : Array Value} {T : TypeId} (h : w.heap[b]? = some (.cells cs T (0, 0))) : w.cell? ⟨b, i, none⟩ = cs[i]? := by simp [World.cell?, h]
theorem blk_frozen {w : World} {b i : Nat} {cs : Array Value} {T : TypeId} (h : w.heap[b]? = some (.cells cs T (0, 0))) : w.frozen? ⟨b, i, none⟩ = false := by simp [World.frozen?, h]
theorem run_store {P : Program} {w : World} {b o : Nat} {t T : TypeId} {cs : Array Value} {v : Value} (h : w.heap[b]? = some (.cells cs T (0, 0))) (hs : sizeB P t = some v.cells.size) (hle : o + v.cells.size ≤ cs.size) (h1 : ∀ u ∈ v.cells.toList, u.oneCell' = true) :
    (Instr.storeAt t (.pointer (some ⟨b, o, none⟩)) v).run P w = .ok () (w.setCells b o v.cells.toList) := by
  have := run_storeCells_cells (P := P) b o v.cells.toList 0 w (fun j hj => by rw [blk_cell h, Array.getElem?_eq_getElem (by simp at hj; omega)]; rfl) (fun j hj => blk_frozen h) h1
  simp only [Nat.add_zero] at this
  simp only [Instr.storeAt, Instr.sureAddr, storeVar, Sem.run_bind, Sem.run_pure, Result.andThen_ok, sizeB_ok hs]
  simp [this]
/-- Cells of an abstract block set. -/
def setPV (cs : List PV) (off : Nat) (vs : List PV) : List PV := cs.take off ++ (vs ++ cs.drop (off + vs.length))
theorem all_one {m : Nm} {B0 : Nat} {w : World} : ∀ {ps : List PV} {vs : List Value}, RepVs m B0 w ps vs → ps.all PV.one = true → ∀ u ∈ vs, u.oneCell' = true
  | [], _, .nil, _, u, hu => by cases hu
  | p :: ps, _, .cons h hs, ha, u, hu => by
    simp only [List.all_cons, Bool.and_eq_true] at ha
    rcases List.mem_cons.1 hu with rfl | hu
    · exact PV.one_ok h ha.1
    · exact all_one hs ha.2 u hu
/-! ### data made of cells -/
section
def flatK : SK → Bool
  | .row _ => false
  | .ptr _ => false
  | _ => true
/-- A cell's value as data; whether it leads to what is fresh alone. -/
def unK (S : AS) : (k : SK) → PV → Option (k.ty × Bool × List Nat)
  | .int k, x => match x with
    | .v (.int k' n) => bif decide (k = k') then some (n, true, []) else none
    | _ => none
  | .bool, x => match x with
    | .v (.bool b) => some (b, true, [])
    | _ => none
  | .str, x => match x with
    | .v (.string s) => some (s, true, [])
    | _ => none
  | .row s, x => match x with
    | .row fr s' l => match asRows s' s l with
      | some l' => some (l', fr, [])
      | none => none
    | .own i => match S.σ i with
      | .own fr T s' l => match asRows s' s l with
        | some l' => some (l', fr, [i])
        | none => none
      | _ => none
    | .v (.slice none 0 _) => some ([], true, [])
    | _ => none
  | .ptr _, _ => none
  | .adr, x => match x with
    | .v (.pointer (some a)) => match a with
      | ⟨b, o, none⟩ => some ((b, o), true, [])
      | _ => none
    | _ => none
  | .fnc f, x => match x with
    | .fn g caps => bif Nat.beq f g && caps.isEmpty then some ((), true, []) else none
    | _ => none
def unT (S : AS) : (s : List SK) → List PV → Option (Tup s × Bool × List Nat)
  | [] => fun cs => match cs with
    | [] => some ((), true, [])
    | _ => none
  | k :: r => match r with
    | [] => fun cs => match cs with
      | [c] => unK S k c
      | _ => none
    | k' :: r' => fun cs => match cs with
      | c :: cs => match unK S k c, unT S (k' :: r') cs with
        | some (x, f, i), some (y, g, j) => some ((x, y), f && g, i ++ j)
        | _, _ => none
      | [] => none
end
/-- What holds of data made so: its rows are fresh, if told; the rows named are let go of. -/
def frz (m : Nm) (l : List Nat) : Nat → Prop := fun k => m.F k ∨ ∃ i ∈ l, (m.v i).ownBlock = some k
theorem frz_stays {m : Nm} {w : World} {B0 : Nat} {fr : Bool} (l : List Nat) : Stays (okOf m B0 fr) (okOf ⟨m.v, m.b, frz m l⟩ B0 fr) w w := fun b hb => ⟨⟨.inl hb.1, hb.2⟩, rfl⟩
theorem frz_app {m : Nm} {w : World} {B0 : Nat} {fr : Bool} (l l' l2 : List Nat) (hl : ∀ i ∈ l, i ∈ l2) : Stays (okOf ⟨m.v, m.b, frz m l⟩ B0 fr) (okOf ⟨m.v, m.b, frz m l2⟩ B0 fr) w w := fun b hb => ⟨⟨hb.1.imp id (fun ⟨i, hi, h⟩ => ⟨i, hl i hi, h⟩), hb.2⟩, rfl⟩
theorem okOf_weak {m : Nm} {w : World} {B0 : Nat} {f g : Bool} (h : g = true → f = true) : Stays (okOf m B0 f) (okOf m B0 g) w w := fun b hb => ⟨⟨hb.1, fun hg => hb.2 (h hg)⟩, rfl⟩
/-- A row of the call's own as data. -/
theorem own_is {B0 : Nat} {w : World} {T : TypeId} {s : List SK} {l : List (Tup s)} {xs : List Value} {v : Value} {ok : Nat → Prop} (h : w.ownsRow B0 T s.length v l.length xs) (hR : RowsIs ok w s l xs) (hk : ∀ k, v.ownBlock = some k → ok k) : SKIs ok w (.row s) l v := by
  simp only [SKIs]
  rcases h.2 with ⟨rfl, h2⟩ | ⟨g, cap, cur, rfl, hb, hg, hle, rest⟩
  · refine ⟨none, 0, by rw [h2], by rw [h2]; exact Nat.le_refl _, fun i x hx => ?_⟩
    have : i < l.length := (List.getElem?_eq_some_iff.1 hx).1
    omega
  · refine ⟨some ⟨g, 0, none⟩, cap, rfl, hle, fun i x hx => ?_⟩
    have hi : i < l.length := (List.getElem?_eq_some_iff.1 hx).1
    obtain ⟨_, hc, ht⟩ := own_cells (j := i) h hR rfl hi
    refine ⟨g, 0, _, rfl, hk g rfl, TupIs.len ht, by rw [Nat.zero_add]; exact hc, ?_⟩
    have hx' : l.getD i (zT s) = x := by rw [List.getD_eq_getElem?_getD, hx]; rfl
    rw [hx'] at ht
    exact ht
theorem unK_ok {w0 : Org} {N : Nat} {m : Nm} {S : AS} {a : Act} {w : World} (hr : Rep w0 N m S a w) {k : SK} {x : PV} {v : Value} {y : k.ty} {f : Bool} {l : List Nat} (h : unK S k x = some (y, f, l)) (hx : RepV m w0.heap.size w x v) : SKIs (okOf ⟨m.v, m.b, frz m l⟩ w0.heap.size f) w k y v := by
  cases k with
  | int k =>
    simp only [unK] at h
    split at h
    · rename_i k' n
      rcases cond_some h with ⟨h1, h2⟩ | ⟨_, h2⟩
      · cases h2; cases hx
        have := of_decide_eq_true h1
        subst this
        simp only [SKIs]
      · cases h2
    · cases h
  | bool =>
    simp only [unK] at h
    split at h
    · cases h; cases hx; simp only [SKIs]
    · cases h
  | str =>
    simp only [unK] at h
    split at h
    · cases h; cases hx; simp only [SKIs]
    · cases h
  | adr =>
    simp only [unK] at h
    split at h
    · split at h
      · cases h; cases hx; simp only [SKIs]
      · cases h
    · cases h
  | fnc f =>
    simp only [unK] at h
    split at h
    · rename_i g caps
      rcases cond_some h with ⟨h1, h2⟩ | ⟨_, h2⟩
      · cases h2
        rw [Bool.and_eq_true] at h1
        have e := Nat.eq_of_beq_eq_true h1.1
        subst e
        have : caps = [] := by simpa using h1.2
        subst this
        cases hx with | fn hx =>
        cases hx
        simp only [SKIs]
      · cases h2
    · cases h
  | row s =>
    simp only [unK] at h
    split at h
    · rename_i fr s' l'
      split at h
      · rename_i l2 hl
        cases h
        obtain ⟨rfl, rfl⟩ := asRows_some hl
        cases hx with | row hx =>
        exact SKIs.move (frz_stays []) hx
      · cases h
    · rename_i i
      split at h
      · rename_i fr T s' l' hσ
        split at h
        · rename_i l2 hl
          cases h
          obtain ⟨rfl, rfl⟩ := asRows_some hl
          cases hx with | own hx =>
          have hb := hr.heap.blk i
          rw [hσ] at hb
          obtain ⟨xs, h1, h2, h3⟩ := hb
          rw [← hx]
          refine own_is h1 (RowsIs.move (frz_stays [i]) h2) (fun k hk => ⟨.inr ⟨i, by simp, hk⟩, fun _ => (h1.lt k hk).1⟩)
        · cases h
      · cases h
    · cases h
      cases hx
      simp only [SKIs]
      exact ⟨none, _, rfl, Nat.zero_le _, fun i x hx => by simp at hx⟩
    · cases h
  | ptr s => simp [unK] at h
theorem unT_ok {w0 : Org} {N : Nat} {m : Nm} {S : AS} {a : Act} {w : World} (hr : Rep w0 N m S a w) : ∀ {s : List SK} {cs : List PV} {vs : List Value} {y : Tup s} {f : Bool} {l : List Nat}, unT S s cs = some (y, f, l) → RepVs m w0.heap.size w cs vs → TupIs (okOf ⟨m.v, m.b, frz m l⟩ w0.heap.size f) w s y vs
  | [], cs, vs, y, f, l, h, hx => by
    simp only [unT] at h
    split at h
    · cases hx; simp only [TupIs]
    · cases h
  | [k], cs, vs, y, f, l, h, hx => by
    match cs, h, hx with
    | [], h, _ => simp only [unT] at h; exact absurd h (by simp)
    | [c], h, .cons hx .nil => simp only [unT] at h; simp only [TupIs]; exact ⟨_, rfl, unK_ok hr h hx⟩
    | _ :: _ :: _, h, _ => simp only [unT] at h; exact absurd h (by simp)
  | k :: k' :: r, cs, vs, y, f, l, h, hx => by
    simp only [unT] at h
    split at h
    · rename_i c cs
      split at h
      · rename_i x1 f1 i1 y1 g1 j1 h1 h2
        cases h
        cases hx with | cons hx hs =>
        simp only [TupIs]
        refine ⟨_, _, rfl, SKIs.move (fun b hb => ?_) (unK_ok hr h1 hx), TupIs.move (fun b hb => ?_) (unT_ok hr h2 hs)⟩
        · exact ⟨⟨hb.1.imp id (fun ⟨i, hi, h⟩ => ⟨i, List.mem_append_left _ hi, h⟩), fun hfg => hb.2 (by simp at hfg; exact hfg.1)⟩, rfl⟩
        · exact ⟨⟨hb.1.imp id (fun ⟨i, hi, h⟩ => ⟨i, List.mem_append_right _ hi, h⟩), fun hfg => hb.2 (by simp at hfg; exact hfg.2)⟩, rfl⟩
      · cases h
    · cases h
end Go.Proofs.YtaknikdbnfmlfaaDoor.Ex
