/- An executor of translated code on abstract states: calls that hand back a row of pointers into a block, or a map that is filled once. -/
import Derived.Test.YtggikacbelogcaaGreatExEE
namespace Go.Proofs.YtggikacbelogcaaGreat.Ex
open Go Go.RowKit
set_option linter.unusedVariables false
set_option linter.unusedSimpArgs false
section
variable {P : Program} {w0 : Org} {w : World} {N : Nat} {S : AS} {o : Oper} {ρ : Type} {r : ρ} {id0 : Nat}
/-- All that a call has made is never written again. -/
theorem Heap.all_new {w' : World} {m : Nm} (h : Heap w0 m S.σ w) (hf : Fresh id0 S) (hb : Below w.heap.size w w') :
    Grows (old id0) m ⟨m.v, m.b, fun k => m.F k ∨ (w.heap.size ≤ k ∧ k < w'.heap.size)⟩ w w' ∧ Heap w0 ⟨m.v, m.b, fun k => m.F k ∨ (w.heap.size ≤ k ∧ k < w'.heap.size)⟩ S.σ w' := by
  have hg : Grows (old id0) m ⟨m.v, m.b, fun k => m.F k ∨ (w.heap.size ≤ k ∧ k < w'.heap.size)⟩ w w' := ⟨fun _ _ => rfl, fun _ _ => rfl, fun k hk => ⟨.inl hk, hb.block k (h.flt k hk)⟩⟩
  refine ⟨hg, Heap.step (fun i => False) h hg hf.σ (fun i _ => ⟨rfl, hf.p i⟩) (fun i k _ hk => ⟨hb.block k (blk_lt h hk).1, fun hF => hF.elim (blk_lt h hk).2.1 (fun hz => by have := (blk_lt h hk).1; omega)⟩) (fun i hi => hi.elim) (fun i j k hij hi => hi.elim) (fun k hk => hk.elim (fun h5 => Nat.lt_of_lt_of_le (h.flt k h5) hb.size) (fun hz => hz.2)) (h.below.trans (hb.mono h.below.size))⟩
/-- A function value that hands back pointers into what its argument points to; it may hold one cell, in which a function value is. -/
structure CloT (P : Program) where
  f : FuncId
  T : TypeId
  offs : List Nat
  cap : Option FuncId
  ok : ∀ (b : Nat) (w : World) (cv : List Value), (match cap with | none => cv = [] | some g => ∃ u, cv = [u] ∧ SKIs (fun k => k < w.heap.size) w (.ptr [.fnc g]) () u) → Calls P f (.pointer (some ⟨b, 0, none⟩) :: cv).toArray w fun e w' => ∃ v xs, e = .returned v ∧ w'.ownsRow w.heap.size T 1 v offs.length xs ∧ (∀ (j o : Nat), offs[j]? = some o → xs[j]? = some (.pointer (some ⟨b, o, none⟩))) ∧ Below w.heap.size w w'
  enters : ∀ (args : Array Value) (w : World), (callFunc f args).run P w = .ok (.enter f args) w
def capIs (cap : Option FuncId) (caps : List PV) : Bool := match cap with
  | none => caps.isEmpty
  | some g => match caps with
    | [.rptr _ s _ off] => sames s [.fnc g] && Nat.beq off 0
    | _ => false
def cloOf (f : FuncId) : List (CloT P) → Option (CloT P)
  | [] => none
  | c :: q => bif Nat.beq c.f f then some c else cloOf f q
theorem cloOf_f {f : FuncId} : ∀ {l : List (CloT P)} {c : CloT P}, cloOf f l = some c → c.f = f
  | [], c, h => by cases h
  | x :: q, c, h => by
    rcases cond_some h with ⟨h1, h2⟩ | ⟨_, h2⟩
    · cases h2; exact Nat.eq_of_beq_eq_true h1
    · exact cloOf_f h2
def isSomeB {α : Type} : Option α → Bool
  | some _ => true
  | none => false
def cloOn (l : List (CloT P)) (S : AS) (o : Oper) : Bool := match o.op with
  | .call ⟨.value x, _, _⟩ => match S.ev x with
    | .fn f _ => isSomeB (cloOf f l)
    | _ => false
  | _ => false
def cloRun (l : List (CloT P)) (S : AS) (o : Oper) (κ : Eff → Option ρ) : Option ρ := match o.op with
  | .call ⟨.value x, args, _⟩ => match S.ev x, args.toList with
    | .fn f caps, [y] => match cloOf f l, S.ev y with
      | some c, .ptr i off => bif Nat.beq off 0 && (capIs c.cap caps && Nat.blt 0 c.offs.length) then κ ⟨.prow i c.offs, []⟩ else none
      | _, _ => none
    | _, _ => none
  | _ => none
theorem clo_ok {l : List (CloT P)} {κ : Eff → Option ρ} (h : cloRun l S o κ = some r) : Sound P w0 N S id0 o κ r := by
  unfold cloRun at h
  split at h
  · rename_i x args ts ho
    split at h
    · rename_i f caps y hx hy
      have hl : args = #[y] := by apply Array.ext'; simpa using hy
      subst hl
      split at h
      · rename_i c i off hc hyv
        rcases cond_some h with ⟨hb, hh⟩ | ⟨_, h2⟩
        · rw [Bool.and_eq_true, Bool.and_eq_true] at hb
          have e0 := Nat.eq_of_beq_eq_true hb.1
          subst e0
          have hcap := hb.2.1
          have hpos : 0 < c.offs.length := Nat.le_of_ble_eq_true hb.2.2
          have hf := cloOf_f hc
          subst hf
          refine ⟨_, hh, ?_⟩
          intro S' m a w hl hf hr K Q hK
          have hr0 := hr.le hl
          have h1 := hr0.ev x
          rw [hx] at h1
          generalize hz : a.eval x = z at h1
          cases h1 with | fn h1 =>
          rename_i cv
          have h2 := hr0.ev y
          rw [hyv] at h2
          generalize hzy : a.eval y = zy at h2
          cases h2
          have hcv : (match c.cap with | none => cv = [] | some g => ∃ u, cv = [u] ∧ SKIs (fun k => k < w.heap.size) w (.ptr [.fnc g]) () u) := by
            unfold capIs at hcap
            split at hcap
            · have : caps = [] := by simpa using hcap
              subst this
              cases h1
              rfl
            · rename_i g hcg
              try rw [hcg]
              split at hcap
              · rename_i fr s d off
                rw [Bool.and_eq_true] at hcap
                have es := sames_eq hcap.1
                subst es
                have eo := Nat.eq_of_beq_eq_true hcap.2
                subst eo
                cases h1 with | cons g1 g2 =>
                cases g2
                cases g1 with | rptr g1 =>
                refine ⟨_, rfl, ?_⟩
                rw [Nat.add_zero]
                exact SKIs.move (fun k hk => ⟨hr.heap.flt k hk.1, rfl⟩) g1
              · cases hcap
          have hcall := c.ok (m.b i) w cv hcv
          have hrun : (execOp a.eval o).run P w = .ok (.enter c.f (.pointer (some ⟨m.b i, 0, none⟩) :: cv).toArray) w := by
            have he := c.enters (.pointer (some ⟨m.b i, 0, none⟩) :: cv).toArray w
            unfold execOp
            simp [ho, resolve, Deferred.ofValue, invoke, hz, hzy]
            simpa using he
          unfold Oper.wp
          rw [hrun, Oper.upon_enter]
          refine hcall.mono fun en w' hh' => ?_
          obtain ⟨v, xs, rfl, g1, g2, g3⟩ := hh'
          obtain ⟨k1, k2⟩ := Heap.all_new hr.heap hf g3
          refine hK _ w' v k1 k2 ?_
          rcases g1.2 with ⟨_, hn⟩ | ⟨g, cap, cur, rfl, q1, q2, q3, q4, q5, q6⟩
          · omega
          · have hlt := (Array.getElem?_eq_some_iff.1 q2).1
            refine .prow (.inr ⟨q1, hlt⟩) q3 (fun j o hj => ?_)
            have hj' := g2 j o hj
            have hjl := (List.getElem?_eq_some_iff.1 hj).1
            rw [← q6, List.getElem?_take_of_lt (by omega)] at hj'
            rw [blk_cell q2]
            simpa using hj'
        · cases h2
      · cases h
    · cases h
  · cases h
def hkClo (l : List (CloT P)) : Hook P := ⟨cloOn l, fun S id0 o κ => cloRun l S o κ, fun _ h => clo_ok h⟩
theorem offs_get (b : Nat) {offs : List Nat} {j o : Nat} (hj : offs[j]? = some o) : (offs.map fun o => (b, o))[j]? = some (b, o) := by rw [List.getElem?_map, hj]; rfl
theorem offs_len {w w' : World} {T : TypeId} {u : Value} {xs : List Value} (b : Nat) (offs : List Nat) (h : w'.ownsRow w.heap.size T 1 u (offs.map fun o => (b, o)).length xs) : w'.ownsRow w.heap.size T 1 u offs.length xs := by rwa [List.length_map] at h
/-- The entry of such a function value, out of what the executor tells of it. -/
theorem clo_of0 {f : FuncId} {T : TypeId} {offs : List Nat} {F : (Nat × Nat) → Option (List (Nat × Nat))} (h : CallsOk P f [.one (.sc .adr)] [.one (.row T [.adr])] F) (hF : ∀ b, F (b, 0) = some (offs.map fun o => (b, o))) :
    ∀ (b : Nat) (w : World) (cv : List Value), cv = [] → Calls P f (.pointer (some ⟨b, 0, none⟩) :: cv).toArray w fun e w' => ∃ v xs, e = .returned v ∧ w'.ownsRow w.heap.size T 1 v offs.length xs ∧ (∀ (j o : Nat), offs[j]? = some o → xs[j]? = some (.pointer (some ⟨b, o, none⟩))) ∧ Below w.heap.size w w' := by
  intro b w cv hcv
  subst hcv
  have hc := h (b, 0) _ w [.pointer (some ⟨b, 0, none⟩)] (hF b) (by simp only [PTIs, PKIs, LKIs, SKIs]; exact ⟨_, rfl, rfl⟩)
  refine hc.mono fun e w' hh => ?_
  obtain ⟨v, rfl, hret, hb⟩ := hh
  obtain ⟨vs, rv, Fz, rfl, hn, _⟩ := hret.ex
  simp only [PTNew, PKNew, LKNew] at hn
  obtain ⟨u, rfl, rfl, xs, h1, h2⟩ := hn
  refine ⟨u, xs, rfl, offs_len b offs h1, fun j o hj => ?_, hb⟩
  have := h2 j (b, o) (offs_get b hj)
  simp only [TupIs, SKIs] at this
  obtain ⟨q, hq, rfl⟩ := this
  have h3 : ((xs.drop (j * 1)).take 1)[0]? = some (.pointer (some ⟨b, o, none⟩)) := by
    show ((xs.drop (j * [SK.adr].length)).take [SK.adr].length)[0]? = _
    rw [hq]; rfl
  rw [List.getElem?_take_of_lt (by omega), List.getElem?_drop] at h3
  simpa using h3
theorem clo_of1 {f g : FuncId} {T : TypeId} {offs : List Nat} {F : ((Nat × Nat) × Unit) → Option (List (Nat × Nat))} (h : CallsOk P f [.one (.sc .adr), .one (.ptr [.fnc g])] [.one (.row T [.adr])] F) (hF : ∀ b, F ((b, 0), ()) = some (offs.map fun o => (b, o))) :
    ∀ (b : Nat) (w : World) (cv : List Value), (∃ u, cv = [u] ∧ SKIs (fun k => k < w.heap.size) w (.ptr [.fnc g]) () u) → Calls P f (.pointer (some ⟨b, 0, none⟩) :: cv).toArray w fun e w' => ∃ v xs, e = .returned v ∧ w'.ownsRow w.heap.size T 1 v offs.length xs ∧ (∀ (j o : Nat), offs[j]? = some o → xs[j]? = some (.pointer (some ⟨b, o, none⟩))) ∧ Below w.heap.size w w' := by
  intro b w cv hcv
  obtain ⟨u0, rfl, hu0⟩ := hcv
  have hc := h ((b, 0), ()) _ w [.pointer (some ⟨b, 0, none⟩), u0] (hF b) (by simp only [PTIs, PKIs, LKIs]; exact ⟨_, _, rfl, by simp only [SKIs], _, rfl, hu0⟩)
  refine hc.mono fun e w' hh => ?_
  obtain ⟨v, rfl, hret, hb⟩ := hh
  obtain ⟨vs, rv, Fz, rfl, hn, _⟩ := hret.ex
  simp only [PTNew, PKNew, LKNew] at hn
  obtain ⟨u, rfl, rfl, xs, h1, h2⟩ := hn
  refine ⟨u, xs, rfl, offs_len b offs h1, fun j o hj => ?_, hb⟩
  have := h2 j (b, o) (offs_get b hj)
  simp only [TupIs, SKIs] at this
  obtain ⟨q, hq, rfl⟩ := this
  have h3 : ((xs.drop (j * 1)).take 1)[0]? = some (.pointer (some ⟨b, o, none⟩)) := by
    show ((xs.drop (j * [SK.adr].length)).take [SK.adr].length)[0]? = _
    rw [hq]; rfl
  rw [List.getElem?_take_of_lt (by omega), List.getElem?_drop] at h3
  simpa using h3
/-- A function without arguments that hands back a map, filled once; its values are told over blocks of the call's own. -/
structure MapC (P : Program) where
  f : FuncId
  ks : List (Int × Int)
  vs : List PV
  ok : ∀ (w : World), Calls P f #[] w fun e w' => ∃ b es clock us, e = .returned (.map (some b)) ∧ w.heap.size ≤ b ∧ w'.heap[b]? = some (.map es clock) ∧ ks.length = us.length ∧ (es.toList.map fun e => (e.key, e.val)).Perm ((ks.map fun k => Value.agg #[.int .i64 k.1, .int .i64 k.2]).zip us) ∧
    (∀ (m : Nm) (B0 : Nat), B0 ≤ w.heap.size → (∀ k, w.heap.size ≤ k → k < w'.heap.size → m.F k) → RepVs m B0 w' vs us) ∧ Below w.heap.size w w'
  ids : ∀ p, idsL p vs = true
  enters : ∀ (args : Array Value) (w : World), (callFunc f args).run P w = .ok (.enter f args) w
def mapcOn (c : MapC P) (S : AS) (o : Oper) : Bool := match o.op with
  | .call ⟨.value x, _, _⟩ => match S.ev x with
    | .fn f _ => Nat.beq c.f f
    | _ => false
  | _ => false
def mapcRun (c : MapC P) (S : AS) (o : Oper) (κ : Eff → Option ρ) : Option ρ := match o.op with
  | .call ⟨.value x, args, _⟩ => match S.ev x, args.toList with
    | .fn f [], [] => bif Nat.beq c.f f then κ ⟨.rmap c.ks c.vs, []⟩ else none
    | _, _ => none
  | _ => none
theorem mapc_ok {c : MapC P} {κ : Eff → Option ρ} (h : mapcRun c S o κ = some r) : Sound P w0 N S id0 o κ r := by
  unfold mapcRun at h
  split at h
  · rename_i x args ts ho
    split at h
    · rename_i f hx hy
      have hl : args = #[] := by apply Array.ext'; simpa using hy
      subst hl
      rcases cond_some h with ⟨hb, hh⟩ | ⟨_, h2⟩
      · have e := Nat.eq_of_beq_eq_true hb
        subst e
        refine ⟨_, hh, ?_⟩
        intro S' m a w hl hf hr K Q hK
        have hr0 := hr.le hl
        have h1 := hr0.ev x
        rw [hx] at h1
        generalize hz : a.eval x = z at h1
        cases h1 with | fn h1 =>
        cases h1
        have hrun : (execOp a.eval o).run P w = .ok (.enter c.f #[]) w := by
          have he := c.enters #[] w
          unfold execOp
          simp [ho, resolve, Deferred.ofValue, invoke, hz]
          simpa using he
        unfold Oper.wp
        rw [hrun, Oper.upon_enter]
        refine (c.ok w).mono fun en w' hh' => ?_
        obtain ⟨b, es, clock, us, rfl, g1, g2, g3, g4, g5, g6⟩ := hh'
        obtain ⟨k1, k2⟩ := Heap.all_new hr.heap hf g6
        exact hK _ w' _ k1 k2 (.rmap (.inr ⟨g1, (Array.getElem?_eq_some_iff.1 g2).1⟩) (g5 _ _ hr.heap.below.size (fun k h1 h2 => .inr ⟨h1, h2⟩)) g3 g2 g4)
      · cases h2
    · cases h
  · cases h
def hkMapC (c : MapC P) : Hook P := ⟨mapcOn c, fun S id0 o κ => mapcRun c S o κ, fun _ h => mapc_ok h⟩
end
end Go.Proofs.YtggikacbelogcaaGreat.Ex
