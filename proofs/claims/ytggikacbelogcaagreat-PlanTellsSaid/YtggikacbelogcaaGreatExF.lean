/- An executor of translated code on abstract states, sixth part: structs put together, lengths, the lesser and the greater; what is loaded. -/
import Derived.Test.YtggikacbelogcaaGreatExE
namespace Go.Proofs.YtggikacbelogcaaGreat.Ex
open Go Go.RowKit
set_option linter.unusedVariables false
set_option linter.unusedSimpArgs false
section
variable {P : Program} {w0 : Org} {w : World} {N : Nat} {S : AS} {o : Oper} {ρ : Type} {r : ρ} {ev : Operand → Value} {v : Value}
def buildB (P : Program) (t : TypeId) (parts : List (Nat × PV)) : Option (List PV) := match P.info? t, P.underlying t with
  | some it, some (.array _ e) => match it.zero, P.info? e with
    | some z, some ie => fillB (fun i => some (i * ie.size, ie.size)) (z.cells.toList.map .v) parts
    | _, _ => none
  | some it, some (.struct fields) => match it.zero, fields.toList.mapM (fun f => (P.info? f.type).map fun i => (f.offset, i.size)) with
    | some z, some places => fillB (places.toArray[·]?) (z.cells.toList.map .v) parts
    | _, _ => none
  | _, _ => none
theorem buildB_ok {m : Nm} {B0 : Nat} {t : TypeId} {ps : List (Nat × PV)} {vps : List (Nat × Value)} {out : List PV} (h : buildB P t ps = some out) (hm : ps.map (·.1) = vps.map (·.1)) (hp : RepVs m B0 w (ps.map (·.2)) (vps.map (·.2))) : ∃ us : List Value, P.built t vps = some us.toArray ∧ RepVs m B0 w out us := by
  unfold buildB at h
  unfold Program.built
  split at h
  · rename_i it n e hit hu
    split at h
    · rename_i z ie hz hie
      obtain ⟨us, h1, h2⟩ := fillB_ok h (RepVs.exact (m := m) (B0 := B0) (w := w) z.cells.toList) hm hp
      exact ⟨us, by simpa [hit, hu, hz, hie] using h1, h2⟩
    · cases h
  · rename_i it fields hit hu
    split at h
    · rename_i z places hz hpl
      obtain ⟨us, h1, h2⟩ := fillB_ok h (RepVs.exact (m := m) (B0 := B0) (w := w) z.cells.toList) hm hp
      exact ⟨us, by simpa [hit, hu, hz, hpl] using h1, h2⟩
    · cases h
  · cases h
def opBuild (P : Program) (S : AS) (t : TypeId) (parts : Array (Nat × Operand)) (κ : PV → Option ρ) : Option ρ := match buildB P t (parts.toList.map fun e => (e.1, S.ev e.2)) with
  | some cs => κ (.agg cs)
  | none => none
theorem evps_ok {m : Nm} {a : Act} (hr : Rep w0 N m S a w) : ∀ l : List (Nat × Operand), RepVs m w0.heap.size w ((l.map fun e => (e.1, S.ev e.2)).map (·.2)) ((l.map fun e => (e.1, a.eval e.2)).map (·.2))
  | [] => .nil
  | x :: l => .cons (hr.ev x.2) (evps_ok hr l)
theorem build_ok {t : TypeId} {parts : Array (Nat × Operand)} {κ : PV → Option ρ} (ho : o.op = .build t parts) (h : opBuild P S t parts κ = some r) : SoundV P w0 N S o κ r := by
  unfold opBuild at h
  split at h
  · rename_i cs hc
    refine ⟨_, h, fun m a w hr => ?_⟩
    obtain ⟨us, h1, h2⟩ := buildB_ok (vps := parts.toList.map fun e => (e.1, a.eval e.2)) hc (by simp) (evps_ok hr _)
    refine ⟨.agg us.toArray, run_of (s := Instr.build t (parts.map fun (i, x) => (i, a.eval x))) (by unfold execOp; simp only [ho]) ?_, .agg h2⟩
    refine run_build w t _ _ ?_
    simpa using h1
  · cases h
/-! builtins -/
def rowLen (S : AS) (x : PV) : Option Nat := match x with
  | .row _ _ l => some l.length
  | .own i => match S.σ i with
    | .own _ _ _ l => some l.length
    | _ => none
  | .v (.slice none n c) => some n
  | _ => none
theorem rowLen_ok {m : Nm} {a : Act} {x : PV} {v : Value} {n : Nat} (hr : Rep w0 N m S a w) (hx : RepV m w0.heap.size w x v) (h : rowLen S x = some n) : ∃ A c, v = .slice A n c := by
  unfold rowLen at h
  split at h
  · cases h
    cases hx with | row hx =>
    simp only [SKIs] at hx
    obtain ⟨A, c, rfl, _⟩ := hx
    exact ⟨A, c, rfl⟩
  · rename_i i
    split at h
    · rename_i fr T s l hσ
      cases h
      cases hx with | own hx =>
      have hb := hr.heap.blk i
      rw [hσ] at hb
      obtain ⟨xs, ho, _⟩ := hb
      rcases ho.2 with ⟨h1, h2⟩ | ⟨g, cap, cur, h1, _⟩
      · rw [hx] at h1
        cases h1
        rw [h2]
        exact ⟨_, _, rfl⟩
      · rw [hx] at h1
        cases h1
        exact ⟨_, _, rfl⟩
    · cases h
  · cases h
    cases hx
    exact ⟨_, _, rfl⟩
  · cases h
def opLen (P : Program) (S : AS) (t : TypeId) (x : PV) (κ : PV → Option ρ) : Option ρ := match P.underlying t with
  | some (.slice _) => match rowLen S x with
    | some n => κ (.v (.int .i64 (n : Int)))
    | none => none
  | some .string => match x with
    | .v (.string s) => κ (.v (.int .i64 (s.size : Int)))
    | _ => none
  | some (.array n _) => κ (.v (.int .i64 (n : Int)))
  | _ => none
theorem len_ok {x : Operand} {t : TypeId} {ts : Array TypeId} {κ : PV → Option ρ} (ho : o.op = .call { callee := .builtin .len, args := #[x], argTypes := ts }) (ht : ts[0]? = some t) (h : opLen P S t (S.ev x) κ = some r) : SoundV P w0 N S o κ r := by
  unfold opLen at h
  split at h
  · rename_i e hu
    split at h
    · rename_i n hn
      refine ⟨_, h, fun m a w hr => ⟨_, ?_, .v⟩⟩
      obtain ⟨A, c, hv⟩ := rowLen_ok hr (hr.ev x) hn
      unfold execOp
      simp only [ho]
      simp [resolve, invoke, builtin, Builtin.len_, ht, hv, Sem.run_bind, run_underlying hu, goInt]
    · cases h
  · rename_i hu
    split at h
    · rename_i s hx
      refine ⟨_, h, fun m a w hr => ⟨_, ?_, .v⟩⟩
      unfold execOp
      simp only [ho]
      simp [resolve, invoke, builtin, Builtin.len_, ht, ev_v hr hx, Sem.run_bind, run_underlying hu, goInt]
    · cases h
  · rename_i n e hu
    refine ⟨_, h, fun m a w hr => ⟨_, ?_, .v⟩⟩
    unfold execOp
    simp only [ho]
    simp [resolve, invoke, builtin, Builtin.len_, ht, Sem.run_bind, run_underlying hu, goInt]
  · cases h
def opMin (gt : Bool) (x y : PV) (κ : PV → Option ρ) : Option ρ := match x, y with
  | .v (.int k a), .v (.int k' b) => bif gt then κ (.v (.int k (mx a b))) else κ (.v (.int k (mn a b)))
  | _, _ => none
theorem min_ok {x y : Operand} {ts : Array TypeId} {gt : Bool} {κ : PV → Option ρ} (ho : o.op = .call { callee := .builtin (if gt then .max else .min), args := #[x, y], argTypes := ts }) (h : opMin gt (S.ev x) (S.ev y) κ = some r) : SoundV P w0 N S o κ r := by
  unfold opMin at h
  split at h
  · rename_i k a k' b hx hy
    rcases cond_some h with ⟨rfl, h⟩ | ⟨rfl, h⟩
    · refine ⟨_, h, fun m ac w hr => ⟨_, ?_, .v⟩⟩
      unfold execOp
      simp only [ho, if_true]
      simp [resolve, invoke, builtin, Builtin.max_, Builtin.max2, ev_v hr hx, ev_v hr hy, Sem.run_bind, mx]
    · refine ⟨_, h, fun m ac w hr => ⟨_, ?_, .v⟩⟩
      unfold execOp
      simp only [ho]
      simp [resolve, invoke, builtin, Builtin.min_, Builtin.min2, ev_v hr hx, ev_v hr hy, Sem.run_bind, mn]
  · cases h
/-! ### data taken apart -/
mutual
def cellK (fr : Bool) : (k : SK) → k.ty → PV
  | .int k, n => .v (.int k n)
  | .bool, b => .v (.bool b)
  | .str, s => .v (.string s)
  | .row s, l => .row fr s l
  | .ptr s, x => .rptr fr s x 0
  | .adr, x => .v (.pointer (some ⟨x.1, x.2, none⟩))
  | .fnc f, _ => .fn f []
def cellsT (fr : Bool) : (s : List SK) → Tup s → List PV
  | [] => fun _ => []
  | k :: r => match r with
    | [] => fun x => [cellK fr k x]
    | k' :: r' => fun x => cellK fr k x.1 :: cellsT fr (k' :: r') x.2
end
theorem cellK_ok {m : Nm} {B0 : Nat} {fr : Bool} {k : SK} {x : k.ty} {v : Value} (h : SKIs (okOf m B0 fr) w k x v) : RepV m B0 w (cellK fr k x) v := by
  cases k with
  | int k => simp only [SKIs] at h; subst h; simp only [cellK]; exact .v
  | bool => simp only [SKIs] at h; subst h; simp only [cellK]; exact .v
  | str => simp only [SKIs] at h; subst h; simp only [cellK]; exact .v
  | row s => simp only [cellK]; exact .row h
  | ptr s =>
    have h0 := h
    simp only [SKIs] at h
    obtain ⟨b, o, cs, rfl, _⟩ := h
    simp only [cellK]
    exact .rptr h0
  | adr => simp only [SKIs] at h; subst h; simp only [cellK]; exact .v
  | fnc f => simp only [SKIs] at h; subst h; simp only [cellK]; exact .fn .nil
theorem cellsT_ok {m : Nm} {B0 : Nat} {fr : Bool} : ∀ {s : List SK} {x : Tup s} {vs : List Value}, TupIs (okOf m B0 fr) w s x vs → RepVs m B0 w (cellsT fr s x) vs
  | [], x, vs, h => by
    simp only [TupIs] at h
    subst h
    simp only [cellsT]
    exact .nil
  | [k], x, vs, h => by
    simp only [TupIs] at h
    obtain ⟨u, rfl, h⟩ := h
    simp only [cellsT]
    exact .cons (cellK_ok h) .nil
  | k :: k' :: r, x, vs, h => by
    simp only [TupIs] at h
    obtain ⟨u, us, rfl, h1, h2⟩ := h
    simp only [cellsT]
    exact .cons (cellK_ok h1) (cellsT_ok h2)
/-! ### what is loaded -/
theorem CellsAt.range {b o : Nat} {cs : List Value} (h : CellsAt w b o cs) : w.rangeAt b o cs := h
theorem load_cells {m : Nm} {B0 : Nat} {t : TypeId} {cs : List PV} {vs : List Value} {b o off : Nat} {p : PV} (h : RepVs m B0 w cs vs) (hc : CellsAt w b o vs) (hp : partB P t cs off = some p) : ∃ v, (Instr.loadAt t (.pointer (some ⟨b, o + off, none⟩))).run P w = .ok v w ∧ RepV m B0 w p v := by
  unfold partB at hp
  cases ha : aggB P t with
  | none => rw [ha] at hp; cases hp
  | some bb =>
    rw [ha] at hp
    cases bb with
    | true =>
      simp only at hp
      cases hs : sizeB P t with
      | none => rw [hs] at hp; cases hp
      | some n =>
        rw [hs] at hp
        cases hble : Nat.ble (off + n) cs.length with
        | false => simp [hble] at hp
        | true =>
        simp only [hble, cond_true, Option.some.injEq] at hp
        subst hp
        have hle := Nat.le_of_ble_eq_true hble
        have hlv := h.len
        have hl : ((vs.drop off).take n).length = n := by rw [List.length_take, List.length_drop]; omega
        refine ⟨_, ?_, .agg ((h.drop off).take n)⟩
        obtain ⟨d, hu, hrow⟩ : ∃ d, P.underlying t = some d ∧ d.isRow = true := by
          unfold aggB at ha
          cases hu : P.underlying t with
          | none => rw [hu] at ha; cases ha
          | some d => rw [hu] at ha; exact ⟨d, rfl, by cases d <;> simp_all <;> rfl⟩
        refine run_loadAt_mid w b (o + off) t _ d (fun j v hv => ?_) hu hrow (by rw [hl]; exact hs)
        have hj : j < ((vs.drop off).take n).length := (List.getElem?_eq_some_iff.1 hv).1
        rw [List.getElem?_take_of_lt (by omega), List.getElem?_drop] at hv
        have := hc (off + j) v hv
        rwa [← Nat.add_assoc] at this
    | false =>
      simp only at hp
      obtain ⟨v, hv, hr⟩ := h.get hp
      refine ⟨v, ?_, hr⟩
      have hcc := hc off v hv
      simp only [Instr.loadAt, Instr.sureAddr, loadVar, Sem.run_bind, Sem.run_pure, Result.andThen_ok, aggB_ok ha, Bool.false_eq_true, if_false, load, Sem.run, hcc]
theorem CellsAt.of_block {b : Nat} {vs : List Value} {T : TypeId} (h : w.heap[b]? = some (.cells vs.toArray T (0, 0))) : CellsAt w b 0 vs := fun j u hu => by
  simp [World.cell?, h, hu]
def opLoad (P : Program) (S : AS) (t : TypeId) (x : PV) (κ : PV → Option ρ) : Option ρ := match x with
  | .ptr i off => match S.σ i with
    | .box _ cs => match partB P t cs off with
      | some p => κ p
      | none => none
    | _ => none
  | .rptr fr s d off => match partB P t (cellsT fr s d) off with
    | some p => κ p
    | none => none
  | .eptr i j sz off => match S.σ i with
    | .own fr _ s l => bif Nat.beq sz s.length then match partB P t (cellsT fr s (l.getD j.toNat (zT s))) off with
      | some p => κ p
      | none => none else none
    | _ => none
  | _ => none
theorem own_cells {B0 : Nat} {T : TypeId} {s : List SK} {l : List (Tup s)} {xs : List Value} {g n c : Nat} {v : Value} {j : Nat} {ok : Nat → Prop} (h : w.ownsRow B0 T s.length v l.length xs) (hR : RowsIs ok w s l xs) (hv : v = .slice (some ⟨g, 0, none⟩) n c) (hj : j < n) :
    n = l.length ∧ CellsAt w g (j * s.length) ((xs.drop (j * s.length)).take s.length) ∧ TupIs ok w s (l.getD j (zT s)) ((xs.drop (j * s.length)).take s.length) := by
  have hn : n = l.length := by
    rcases h.2 with ⟨h1, h2⟩ | ⟨g', cap, cur, h1, _⟩
    · rw [hv] at h1; cases h1
    · rw [hv] at h1; cases h1; rfl
  subst hn
  refine ⟨rfl, fun k u hu => ?_, ?_⟩
  · have hk : k < s.length := by
      have := (List.getElem?_eq_some_iff.1 hu).1
      rw [List.length_take] at this
      omega
    rw [List.getElem?_take_of_lt hk, List.getElem?_drop] at hu
    have := h.cells (g := g) (by rw [hv]; rfl) _ _ hu
    rwa [Addr.add_mid, Nat.zero_add] at this
  · have := hR j (l[j]) (List.getElem?_eq_getElem hj)
    rw [List.getD_eq_getElem?_getD, List.getElem?_eq_getElem hj]
    exact this
theorem load_ok {x : Operand} {t : TypeId} {κ : PV → Option ρ} (ho : o.op = .load t x) (h : opLoad P S t (S.ev x) κ = some r) : SoundV P w0 N S o κ r := by
  unfold opLoad at h
  split at h
  · rename_i i off hx
    split at h
    · rename_i T cs hσ
      split at h
      · rename_i p hp
        refine ⟨_, h, fun m a w hr => ?_⟩
        have h1 := hr.ev x
        rw [hx] at h1
        generalize hz : a.eval x = z at h1
        cases h1
        have hb := hr.heap.blk i
        rw [hσ] at hb
        obtain ⟨_, _, vs, hvs, hh⟩ := hb
        obtain ⟨v, h2, h3⟩ := load_cells hvs (CellsAt.of_block hh) hp
        rw [Nat.zero_add] at h2
        exact ⟨v, run_of (s := Instr.loadAt t (a.eval x)) (by unfold execOp; simp only [ho]) (by rw [hz]; exact h2), h3⟩
      · cases h
    · cases h
  · rename_i fr s d off hx
    split at h
    · rename_i p hp
      refine ⟨_, h, fun m a w hr => ?_⟩
      have h1 := hr.ev x
      rw [hx] at h1
      generalize hz : a.eval x = z at h1
      cases h1 with | rptr h1 =>
      simp only [SKIs] at h1
      obtain ⟨b, o', cs, he, hok, hl, hcs, ht⟩ := h1
      cases he
      obtain ⟨v, h2, h3⟩ := load_cells (cellsT_ok ht) hcs hp
      exact ⟨v, run_of (s := Instr.loadAt t (a.eval x)) (by unfold execOp; simp only [ho]) (by rw [hz]; exact h2), h3⟩
    · cases h
  · rename_i i j sz off hx
    split at h
    · rename_i fr T s l hσ
      rcases cond_some h with ⟨hsz, hh⟩ | ⟨_, h2⟩
      · clear h
        split at hh
        · rename_i p hp
          have := Nat.eq_of_beq_eq_true hsz
          subst this
          refine ⟨_, hh, fun m a w hr => ?_⟩
          have h1 := hr.ev x
          rw [hx] at h1
          generalize hz : a.eval x = z at h1
          cases h1 with | eptr hv h0 hj =>
          have hb := hr.heap.blk i
          rw [hσ] at hb
          obtain ⟨xs, how, hR, _⟩ := hb
          obtain ⟨_, hc, ht⟩ := own_cells (j := j.toNat) how hR hv (by omega)
          obtain ⟨v, h2, h3⟩ := load_cells (cellsT_ok ht) hc hp
          exact ⟨v, run_of (s := Instr.loadAt t (a.eval x)) (by unfold execOp; simp only [ho]) (by rw [hz]; exact h2), h3⟩
        · cases hh
      · cases h2
    · cases h
  · cases h
end
end Go.Proofs.YtggikacbelogcaaGreat.Ex
