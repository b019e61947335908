/- An executor of translated code on abstract states, eleventh part: rows that are made, and grow. -/
import Derived.Test.YtggikacbelogcaaGreatExJ
import Derived.Maps.AppendAt
namespace Go.Proofs.YtggikacbelogcaaGreat.Ex
open Go Go.RowKit
set_option linter.unusedVariables false
set_option linter.unusedSimpArgs false
/-- A row's blocks behind a step: dl are let go of, fl are written no more, id0 is new. -/
theorem Heap.newrow {w0 : Org} {w w' : World} {m : Nm} {S : AS} {id0 : Nat} {dl fl : List Nat} {row : Option Nat} {fr : Bool} {T : TypeId} {s : List SK} {l : List (Tup s)} {xs : List Value} {v' : Value} (h : Heap w0 m S.σ w) (hf : Fresh id0 S) (hgr : w.grownBy w' row)
    (hrow : ∀ k, row = some k → ∃ i ∈ dl, blkOf m i (S.σ i) = some k) (hfl : ∀ i ∈ fl, ∃ fr T s l, S.σ i = .own fr T s l) (hdis : ∀ i ∈ fl, i ∉ dl) (hv : ∀ k, v'.ownBlock = some k → row = some k ∨ w.heap.size ≤ k)
    (hown : w'.ownsRow w0.heap.size T s.length v' l.length xs) (hR : RowsIs (okOf ⟨m.v, m.b, frz m fl⟩ w0.heap.size fr) w' s l xs) :
    ∃ m', Grows (old id0) m m' w w' ∧ Heap w0 m' (updσ S.σ (outs (dl ++ fl) ++ [(id0, .own fr T s l)])) w' ∧ m'.v id0 = v' := by
  let m' : Nm := ⟨setAt m.v id0 v', m.b, frz m fl⟩
  have hrow2 : ∀ k, row = some k → k < w.heap.size ∧ ¬ m.F k ∧ w0.heap.size ≤ k := fun k hk => by
    obtain ⟨i, _, hi⟩ := hrow k hk
    exact blk_lt h hi
  have hflb : ∀ i ∈ fl, ∀ k, (m.v i).ownBlock = some k → blkOf m i (S.σ i) = some k := fun i hi k hk => by
    obtain ⟨fr, T, s, l, hσ⟩ := hfl i hi
    rw [hσ]
    exact hk
  have hg : Grows (old id0) m m' w w' := ⟨fun i hi => setAt_ne (old_ne (k := 0) (by decide) hi), fun _ _ => rfl, fun b hb => ⟨.inl hb, hgr.block b (h.flt b hb) (fun e => (hrow2 b e.symm).2.1 hb)⟩⟩
  have hnew : ∀ k, v'.ownBlock = some k → ¬ frz m fl k := fun k hk hfz => by
    rcases hv k hk with h1 | h1
    · obtain ⟨i, hi, hib⟩ := hrow k h1
      rcases hfz with h2 | ⟨j, hj, hjb⟩
      · exact (hrow2 k h1).2.1 h2
      · exact h.apart i j k (fun e => hdis j hj (e ▸ hi)) hib (hflb j hj k hjb)
    · rcases hfz with h2 | ⟨j, hj, hjb⟩
      · have := h.flt k h2; omega
      · have := (blk_lt h (hflb j hj k hjb)).1; omega
  refine ⟨m', hg, ?_, setAt_self _ _ _⟩
  have hσ' : ∀ i, updσ S.σ (outs (dl ++ fl) ++ [(id0, .own fr T s l)]) i = if i = id0 then .own fr T s l else if i ∈ dl ++ fl then .no else S.σ i := fun i => updσ_last _ _ _ _ _
  refine Heap.step (fun i => i = id0 ∨ i ∈ dl ++ fl) h hg hf.σ (fun i hi => ⟨by rw [hσ', if_neg (fun e => hi (.inl e)), if_neg (fun e => hi (.inr e))], hf.p i⟩) (fun i k hi hk => ?_) (fun i hi => ?_) (fun i j k hij hi h1 h2 => ?_) (fun k hk => ?_) ?_
  · have hlt := blk_lt h hk
    refine ⟨hgr.block k hlt.1 (fun e => ?_), fun hfz => ?_⟩
    · obtain ⟨j, hj, hjb⟩ := hrow k e.symm
      exact h.apart i j k (fun e => hi (.inr (List.mem_append_left _ (e ▸ hj)))) hk hjb
    · rcases hfz with h2 | ⟨j, hj, hjb⟩
      · exact hlt.2.1 h2
      · exact h.apart i j k (fun e => hi (.inr (List.mem_append_right _ (e ▸ hj)))) hk (hflb j hj k hjb)
  · rw [hσ']
    by_cases h1 : i = id0
    · rw [if_pos h1]
      subst h1
      refine ⟨xs, ?_, hR, fun k hk => hnew k ?_⟩
      · show w'.ownsRow _ _ _ (setAt m.v i v' i) _ _
        rw [setAt_self]; exact hown
      · have : (setAt m.v i v' i).ownBlock = some k := hk
        rwa [setAt_self] at this
    · rw [if_neg h1, if_pos (hi.resolve_left h1)]
      trivial
  · rw [hσ'] at h1
    by_cases hi0 : i = id0
    · rw [if_pos hi0] at h1
      subst hi0
      have h1' : v'.ownBlock = some k := by
        have : (setAt m.v i v' i).ownBlock = some k := h1
        rwa [setAt_self] at this
      rw [hσ', if_neg (Ne.symm hij)] at h2
      by_cases hj : j ∈ dl ++ fl
      · rw [if_pos hj] at h2; cases h2
      · rw [if_neg hj, blkOf.same hg (hf.p j)] at h2
        rcases hv k h1' with h3 | h3
        · obtain ⟨q, hq, hqb⟩ := hrow k h3
          exact h.apart q j k (fun e => hj (List.mem_append_left _ (e ▸ hq))) hqb h2
        · have := (blk_lt h h2).1; omega
    · rw [if_neg hi0, if_pos (hi.resolve_left hi0)] at h1
      cases h1
  · rcases hk with h2 | ⟨j, hj, hjb⟩
    · exact Nat.lt_of_lt_of_le (h.flt k h2) hgr.size
    · exact Nat.lt_of_lt_of_le (blk_lt h (hflb j hj k hjb)).1 hgr.size
  · exact h.below.grown hgr h.below.size (fun k hk => (hrow2 k hk).2.2)
mutual
/-- The kind of a type's data. -/
def skOf (P : Program) : Nat → TypeId → Option (List SK)
  | 0, _ => none
  | d + 1, t => match P.underlying t with
    | some (.int k) => some [.int k]
    | some .bool => some [.bool]
    | some .string => some [.str]
    | some (.pointer _) => some [.adr]
    | some (.slice e) => match skOf P d e with
      | some s => some [.row s]
      | none => none
    | some (.struct fs) => skFs P d fs.toList
    | some (.array n e) => match skOf P d e with
      | some s => some ((List.replicate n s).flatten)
      | none => none
    | _ => none
def skFs (P : Program) : Nat → List Field → Option (List SK)
  | 0, _ => none
  | d + 1, fs => match fs with
    | [] => some []
    | f :: r => match skOf P d f.type, skFs P d r with
      | some a, some b => some (a ++ b)
      | _, _ => none
end
/-- Cells cut into data. -/
def unTs (S : AS) (s : List SK) : Nat → List PV → Option (List (Tup s) × Bool × List Nat)
  | 0, _ => some ([], true, [])
  | n + 1, cs => match unT S s (cs.take s.length), unTs S s n (cs.drop s.length) with
    | some (x, f, i), some (l, g, j) => some (x :: l, f && g, i ++ j)
    | _, _ => none
theorem unK_own {S : AS} {k : SK} {x : PV} {y : k.ty} {f : Bool} {l : List Nat} (h : unK S k x = some (y, f, l)) : ∀ i ∈ l, ∃ fr T s l, S.σ i = .own fr T s l := by
  cases k with
  | row s =>
    simp only [unK] at h
    split at h
    · split at h
      · cases h; intro i hi; cases hi
      · cases h
    · rename_i i
      split at h
      · rename_i fr T s' l' hσ
        split at h
        · cases h
          intro j hj
          simp at hj
          subst hj
          exact ⟨_, _, _, _, hσ⟩
        · cases h
      · cases h
    · cases h; intro i hi; cases hi
    · cases h
  | adr =>
    simp only [unK] at h
    split at h
    · split at h
      · cases h; intro i hi; cases hi
      · cases h
    · cases h
  | fnc f =>
    simp only [unK] at h
    split at h
    · rcases cond_some h with ⟨_, h2⟩ | ⟨_, h2⟩
      · cases h2; intro i hi; cases hi
      · cases h2
    · cases h
  | int k =>
    simp only [unK] at h
    split at h
    · rcases cond_some h with ⟨_, h2⟩ | ⟨_, h2⟩
      · cases h2; intro i hi; cases hi
      · cases h2
    · cases h
  | bool =>
    simp only [unK] at h
    split at h
    · cases h; intro i hi; cases hi
    · cases h
  | str =>
    simp only [unK] at h
    split at h
    · cases h; intro i hi; cases hi
    · cases h
  | ptr s => simp [unK] at h
theorem unT_own {S : AS} : ∀ {s : List SK} {cs : List PV} {y : Tup s} {f : Bool} {l : List Nat}, unT S s cs = some (y, f, l) → ∀ i ∈ l, ∃ fr T s l, S.σ i = .own fr T s l
  | [], cs, y, f, l, h => by
    simp only [unT] at h
    split at h
    · cases h; intro i hi; cases hi
    · cases h
  | [k], cs, y, f, l, h => by
    match cs, h with
    | [], h => simp only [unT] at h; exact absurd h (by simp)
    | [c], h => simp only [unT] at h; exact unK_own h
    | _ :: _ :: _, h => simp only [unT] at h; exact absurd h (by simp)
  | k :: k' :: r, cs, y, f, l, h => by
    simp only [unT] at h
    split at h
    · split at h
      · rename_i x1 f1 i1 y1 g1 j1 h1 h2
        cases h
        intro i hi
        rcases List.mem_append.1 hi with hi | hi
        · exact unK_own h1 i hi
        · exact unT_own h2 i hi
      · cases h
    · cases h
theorem unTs_own {S : AS} {s : List SK} : ∀ {n : Nat} {cs : List PV} {y : List (Tup s)} {f : Bool} {l : List Nat}, unTs S s n cs = some (y, f, l) → ∀ i ∈ l, ∃ fr T s l, S.σ i = .own fr T s l
  | 0, cs, y, f, l, h => by cases h; intro i hi; cases hi
  | n + 1, cs, y, f, l, h => by
    simp only [unTs] at h
    split at h
    · rename_i x1 f1 i1 y1 g1 j1 h1 h2
      cases h
      intro i hi
      rcases List.mem_append.1 hi with hi | hi
      · exact unT_own h1 i hi
      · exact unTs_own h2 i hi
    · cases h
theorem RowsIs.nil {ok : Nat → Prop} {w : World} {s : List SK} {xs : List Value} : RowsIs ok w s [] xs := fun i x hx => by simp at hx
theorem RowsIs.cons {ok : Nat → Prop} {w : World} {s : List SK} {x : Tup s} {l : List (Tup s)} {xs : List Value} (h : TupIs ok w s x (xs.take s.length)) (hs : RowsIs ok w s l (xs.drop s.length)) : RowsIs ok w s (x :: l) xs := fun i y hy => by
  cases i with
  | zero => simp only [List.getElem?_cons_zero, Option.some.injEq] at hy; subst hy; simpa using h
  | succ i =>
    have := hs i y (by simpa using hy)
    rw [List.drop_drop] at this
    rw [Nat.succ_mul, Nat.add_comm]
    exact this
theorem unTs_ok {w0 : Org} {N : Nat} {m : Nm} {S : AS} {a : Act} {w : World} (hr : Rep w0 N m S a w) {s : List SK} : ∀ {n : Nat} {cs : List PV} {vs : List Value} {y : List (Tup s)} {f : Bool} {l : List Nat}, unTs S s n cs = some (y, f, l) → RepVs m w0.heap.size w cs vs → y.length = n ∧ RowsIs (okOf ⟨m.v, m.b, frz m l⟩ w0.heap.size f) w s y vs
  | 0, cs, vs, y, f, l, h, hx => by cases h; exact ⟨rfl, RowsIs.nil⟩
  | n + 1, cs, vs, y, f, l, h, hx => by
    simp only [unTs] at h
    split at h
    · rename_i x1 f1 i1 y1 g1 j1 h1 h2
      cases h
      have t1 := unT_ok hr h1 (hx.take s.length)
      obtain ⟨e1, t2⟩ := unTs_ok hr h2 (hx.drop s.length)
      refine ⟨by simp [e1], RowsIs.cons (TupIs.move (fun b hb => ?_) t1) (RowsIs.move (fun b hb => ?_) t2)⟩
      · exact ⟨⟨hb.1.imp id (fun ⟨i, hi, h⟩ => ⟨i, List.mem_append_left _ hi, h⟩), fun hfg => hb.2 (by simp at hfg; exact hfg.1)⟩, rfl⟩
      · exact ⟨⟨hb.1.imp id (fun ⟨i, hi, h⟩ => ⟨i, List.mem_append_right _ hi, h⟩), fun hfg => hb.2 (by simp at hfg; exact hfg.2)⟩, rfl⟩
    · cases h
theorem foldl_set_size (off : Nat) : ∀ (zl : List (Value × Nat)) (cells : Array Value), (zl.foldl (fun cs (c, j) => cs.setIfInBounds (off + j) c) cells).size = cells.size
  | [], cells => rfl
  | x :: zl, cells => by rw [List.foldl_cons, foldl_set_size off zl]; simp
theorem fill_len {place : Nat → Option (Nat × Nat)} : ∀ {ps : List (Nat × Value)} {cells out : Array Value}, Instr.fill place cells ps = some out → out.size = cells.size
  | [], cells, out, h => by cases h; rfl
  | (i, v) :: ps, cells, out, h => by
    simp only [Instr.fill] at h
    split at h
    · cases h
    · split at h
      · cases h
      · rw [fill_len h, ← Array.foldl_toList]
        exact foldl_set_size _ _ _
theorem RepVs.blank {m : Nm} {B0 : Nat} {w : World} : ∀ (vs : List Value), RepVs m B0 w (List.replicate vs.length .un) vs
  | [] => .nil
  | v :: vs => .cons .un (RepVs.blank vs)
section
variable {P : Program} {w0 : Org} {w : World} {N : Nat} {S : AS} {o : Oper} {ρ : Type} {r : ρ} {id0 : Nat}
def opLit (P : Program) (S : AS) (id0 : Nat) (t : TypeId) (len : Nat) (parts : Array (Nat × Operand)) (κ : Eff → Option ρ) : Option ρ := match P.underlying t with
  | some (.slice e) => match sizeB P e, skOf P 12 e, zeroB P e with
    | some sz, some s, some _ => bif Nat.beq sz s.length && (Nat.ble (len * sz) 1000 && Nat.ble len 1000) then match fillB (fun i => some (i * sz, sz)) (List.replicate (len * sz) .un) (parts.toList.map fun e => (e.1, S.ev e.2)) with
      | some cs => match unTs S s len cs with
        | some (l, f, fl) => κ ⟨.own id0, outs ([] ++ fl) ++ [(id0, .own f e s l)]⟩
        | none => none
      | none => none else none
    | _, _, _ => none
  | _ => none
theorem run_lit {t e : TypeId} {len sz : Nat} {parts : Array (Nat × Value)} {zero : Value} (hu : P.underlying t = some (.slice e)) (hs : sizeB P e = some sz) (hz : zeroB P e = some zero) (hle : len * sz ≤ 1000) (w : World) :
    ∃ z0 : Array Value, z0.size = len * sz ∧ ∀ us, Instr.fill (fun i => some (i * sz, sz)) z0 parts.toList = some us → (Instr.buildSlice t len parts).run P w = .ok (.slice (some ⟨w.heap.size, 0, none⟩) len len) (w.alloc (.cells us e)) := by
  have hn : ¬ (len * sz > 2 ^ 24) := by omega
  by_cases h0 : len * sz = 0
  · refine ⟨(Array.range (len * sz)).map ((#[] : Array Value)[· % (#[] : Array Value).size]!), by simp, fun us h1 => ?_⟩
    simp only [Instr.buildSlice, Sem.run_bind, run_underlying hu, Result.andThen_ok, sizeB_ok hs, if_neg hn, if_pos h0]
    simp only [Sem.run_pure, Result.andThen_ok]
    rw [h1]
    rfl
  · refine ⟨(Array.range (len * sz)).map (zero.cells[· % zero.cells.size]!), by simp, fun us h1 => ?_⟩
    simp only [Instr.buildSlice, Sem.run_bind, run_underlying hu, Result.andThen_ok, sizeB_ok hs, if_neg hn, if_neg h0, zeroB_ok hz, Sem.run_pure]
    rw [h1]
    rfl
def evp (ev : Operand → Value) (parts : Array (Nat × Operand)) : Array (Nat × Value) := parts.map fun e => (e.1, ev e.2)
theorem exec_lit {t : TypeId} {len : Nat} {parts : Array (Nat × Operand)} {ev : Operand → Value} {v : Value} {w1 : World} (ho : o.op = .buildSlice t len parts) (h : (Instr.buildSlice t len (evp ev parts)).run P w = .ok v w1) : (execOp ev o).run P w = .ok (.value v) w1 :=
  run_of_w (s := Instr.buildSlice t len (evp ev parts)) (by unfold execOp; simp only [ho]; rfl) h
theorem lit_ok {t : TypeId} {len : Nat} {parts : Array (Nat × Operand)} {κ : Eff → Option ρ} (ho : o.op = .buildSlice t len parts) (h : opLit P S id0 t len parts κ = some r) : Sound P w0 N S id0 o κ r := by
  unfold opLit at h
  split at h
  · rename_i e hu
    split at h
    · rename_i sz s zero hs hsk hz
      rcases cond_some h with ⟨hsz, hh⟩ | ⟨_, h2⟩
      · clear h
        simp only [Bool.and_eq_true] at hsz
        have e1 := Nat.eq_of_beq_eq_true hsz.1
        have e2 := Nat.le_of_ble_eq_true hsz.2.1
        have e3 := Nat.le_of_ble_eq_true hsz.2.2
        split at hh
        · rename_i cs hcs
          split at hh
          · rename_i l f fl hun
            refine ⟨_, hh, ?_⟩
            intro S' m a w hl hf hr K Q hK
            have hr0 := hr.le hl
            obtain ⟨z0, hz0, hrun⟩ := run_lit (parts := evp a.eval parts) hu hs hz e2 w
            have h1 := RepVs.blank (m := m) (B0 := w0.heap.size) (w := w) z0.toList
            rw [Array.length_toList, hz0] at h1
            obtain ⟨us, hfill, hus⟩ := fillB_ok (vs := z0.toList) (vps := parts.toList.map fun e => (e.1, a.eval e.2)) hcs h1 (by simp) (evps_ok hr0 _)
            have hrun' := hrun us.toArray (by simpa [evp] using hfill)
            obtain ⟨elen, hrows⟩ := unTs_ok hr0 hun hus
            subst elen
            have hul : us.length = l.length * s.length := by
              have := fill_len hfill
              simp at this
              rw [this, ← Array.length_toList, Array.length_toList, hz0, e1]
            have hmax : l.length ≤ maxLen := Nat.le_trans e3 (by decide)
            have hgr : w.grownBy (w.alloc (.cells us.toArray e)) none := World.grownBy_alloc w _ none
            obtain ⟨m', hg, hh', hv'⟩ := Heap.newrow (dl := []) (fl := fl) (row := none) (fr := f) (T := e) (s := s) (l := l) (xs := us) (v' := .slice (some ⟨w.heap.size, 0, none⟩) l.length l.length) hr.heap hf hgr (fun k hk => by cases hk) (fun i hi => by
              obtain ⟨fr, T, s', l', hσ⟩ := unTs_own hun i hi
              exact ⟨_, _, _, _, Le.blk hl hσ (by simp)⟩) (fun i _ h => by cases h) (fun k hk => .inr (by cases hk; exact Nat.le_refl _))
              ⟨hul, .inr ⟨w.heap.size, l.length, us.toArray, rfl, hr.heap.below.size, heap_alloc_new w _, Nat.le_refl _, hmax, by simp [hul], by simp [← hul]⟩⟩
              (RowsIs.move (fun b hb => ⟨hb, Below.heap_alloc w _ b (by
                rcases hb.1 with h2 | ⟨i, hi, hib⟩
                · exact hr.heap.flt b h2
                · obtain ⟨fr, T, s', l', hσ⟩ := unTs_own hun i hi
                  exact (blk_lt hr.heap (i := i) (by rw [Le.blk hl hσ (by simp)]; exact hib)).1)⟩) hrows)
            unfold Oper.wp
            rw [exec_lit ho hrun', Oper.upon_value]
            exact hK m' _ _ hg hh' (.own hv')
          · cases hh
        · cases hh
      · cases h2
    · cases h
  · cases h
end
end Go.Proofs.YtggikacbelogcaaGreat.Ex
