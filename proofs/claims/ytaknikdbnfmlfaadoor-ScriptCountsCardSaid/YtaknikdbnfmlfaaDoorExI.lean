/- An executor of translated code on abstract states, ninth part: what stores do. -/
import Derived.Test.YtaknikdbnfmlfaaDoorExE
import Derived.Maps.AppendAt
namespace Go.Proofs.YtaknikdbnfmlfaaDoor.Ex
open Go Go.RowKit
set_option linter.unusedVariables false
set_option linter.unusedSimpArgs false
theorem Rep.one_blk {w0 : Org} {N : Nat} {m : Nm} {S : AS} {a : Act} {w : World} (hr : Rep w0 N m S a w) (i : Nat) : BlkIs m w0.heap.size w i (S.σ i) := hr.heap.blk i
/-- Cells set in a list. -/
def setL {α : Type} (xs : List α) (p : Nat) (vs : List α) : List α := xs.take p ++ (vs ++ xs.drop (p + vs.length))
theorem setL_get {α : Type} (xs vs : List α) (p q : Nat) (h : p + vs.length ≤ xs.length) : (setL xs p vs)[q]? = if p ≤ q ∧ q < p + vs.length then vs[q - p]? else xs[q]? := by
  unfold setL
  have hl : (xs.take p).length = p := by rw [List.length_take]; omega
  by_cases h1 : q < p
  · rw [List.getElem?_append_left (by omega), List.getElem?_take_of_lt h1, if_neg (by omega)]
  · rw [List.getElem?_append_right (by omega), hl]
    by_cases h2 : q < p + vs.length
    · rw [List.getElem?_append_left (by omega), if_pos ⟨by omega, h2⟩]
    · rw [List.getElem?_append_right (by omega), List.getElem?_drop, if_neg (by omega)]
      congr 1
      omega
theorem setL_len {α : Type} (xs vs : List α) (p : Nat) (h : p + vs.length ≤ xs.length) : (setL xs p vs).length = xs.length := by
  unfold setL
  rw [List.length_append, List.length_append, List.length_take, List.length_drop]
  omega
theorem seg_other {α : Type} {xs vs : List α} {i j n off : Nat} (hoff : off + vs.length ≤ n) (h : j * n + off + vs.length ≤ xs.length) (hij : i ≠ j) : ((setL xs (j * n + off) vs).drop (i * n)).take n = (xs.drop (i * n)).take n := by
  apply List.ext_getElem?
  intro q
  by_cases hq : q < n
  · rw [List.getElem?_take_of_lt hq, List.getElem?_take_of_lt hq, List.getElem?_drop, List.getElem?_drop, setL_get _ _ _ _ h, if_neg ?_]
    intro ⟨h1, h2⟩
    rcases Nat.lt_or_gt_of_ne hij with h3 | h3
    · have : (i + 1) * n ≤ j * n := Nat.mul_le_mul_right n h3
      rw [Nat.add_mul, Nat.one_mul] at this
      omega
    · have : (j + 1) * n ≤ i * n := Nat.mul_le_mul_right n h3
      rw [Nat.add_mul, Nat.one_mul] at this
      omega
  · rw [List.getElem?_eq_none (by rw [List.length_take]; omega), List.getElem?_eq_none (by rw [List.length_take]; omega)]
theorem seg_same {α : Type} {xs vs : List α} {j n off : Nat} (hoff : off + vs.length ≤ n) (h : j * n + n ≤ xs.length) : ((setL xs (j * n + off) vs).drop (j * n)).take n = setL ((xs.drop (j * n)).take n) off vs := by
  have hlen : ((xs.drop (j * n)).take n).length = n := by rw [List.length_take, List.length_drop]; omega
  apply List.ext_getElem?
  intro q
  rw [setL_get _ _ _ _ (by omega)]
  by_cases hq : q < n
  · rw [List.getElem?_take_of_lt hq, List.getElem?_drop, setL_get _ _ _ _ (by omega)]
    by_cases h1 : off ≤ q ∧ q < off + vs.length
    · rw [if_pos h1, if_pos (by omega)]
      congr 1
      omega
    · rw [if_neg h1, if_neg (by omega), List.getElem?_take_of_lt hq, List.getElem?_drop]
  · rw [List.getElem?_eq_none (by rw [List.length_take]; omega), if_neg (by omega), List.getElem?_eq_none (by rw [List.length_take]; omega)]
theorem RepVs.setL {m : Nm} {B0 : Nat} {w : World} {ps qs : List PV} {vs us : List Value} (h : RepVs m B0 w ps vs) (h' : RepVs m B0 w qs us) (off : Nat) : RepVs m B0 w (setL ps off qs) (setL vs off us) := by
  unfold Ex.setL
  rw [h'.len]
  exact (h.take _).append (h'.append (h.drop _))
/-- Several blocks told anew. -/
def outs (l : List Nat) : List (Nat × ABlk) := l.map fun i => (i, .no)
theorem updσ_app (σ : Nat → ABlk) : ∀ (l l' : List (Nat × ABlk)), updσ σ (l ++ l') = updσ (updσ σ l) l'
  | [], _ => rfl
  | e :: l, l' => updσ_app _ l l'
theorem updσ_outs (σ : Nat → ABlk) : ∀ (l : List Nat) (j : Nat), updσ σ (outs l) j = if j ∈ l then .no else σ j
  | [], j => by simp [outs, updσ]
  | i :: l, j => by
    show updσ (fun k => bif Nat.beq k i then .no else σ k) (outs l) j = _
    rw [updσ_outs _ l j]
    by_cases h : j ∈ l
    · simp [h]
    · by_cases hji : j = i
      · subst hji; simp [h]
      · have hb : Nat.beq j i = false := by
          cases hq : Nat.beq j i with
          | true => exact absurd (Nat.eq_of_beq_eq_true hq) hji
          | false => rfl
        simp [h, hji, hb]
theorem updσ_last (σ : Nat → ABlk) (l : List Nat) (i : Nat) (b : ABlk) (j : Nat) : updσ σ (outs l ++ [(i, b)]) j = if j = i then b else if j ∈ l then .no else σ j := by
  rw [updσ_app, updσ_one, updσ_outs]
section
variable {P : Program} {w0 : Org} {w : World} {N : Nat} {S : AS} {o : Oper} {ρ : Type} {r : ρ} {id0 : Nat}
def okStore (id0 : Nat) (yc : List PV) (n off tot : Nat) : Bool := Nat.beq yc.length n && (Nat.ble (off + n) tot && (yc.all PV.one && idsL (old id0) yc))
def opStore (P : Program) (S : AS) (id0 : Nat) (t : TypeId) (x y : PV) (κ : Eff → Option ρ) : Option ρ := match x, y.cells, sizeB P t with
  | .ptr i off, some yc, some n => match S.σ i with
    | .box T cs => bif okStore id0 yc n off cs.length then κ ⟨.v undef, [(i, .box T (setL cs off yc))]⟩ else none
    | _ => none
  | .eptr i j sz off, some yc, some n => match S.σ i with
    | .own fr T s l => bif okStore id0 yc n off s.length && Nat.beq sz s.length then match unT S s (setL (cellsT fr s (l.getD j.toNat (zT s))) off yc) with
      | some (y', f, []) => κ ⟨.v undef, [(i, .own (fr && f) T s (l.set j.toNat y'))]⟩
      | _ => none else none
    | _ => none
  | _, _, _ => none
theorem okStore_ok {yc : List PV} {n off tot : Nat} (h : okStore id0 yc n off tot = true) : yc.length = n ∧ off + n ≤ tot ∧ yc.all PV.one = true ∧ idsL (old id0) yc = true := by
  simp only [okStore, Bool.and_eq_true] at h
  exact ⟨Nat.eq_of_beq_eq_true h.1, Nat.le_of_ble_eq_true h.2.1, h.2.2.1, h.2.2.2⟩
theorem run_store_op {x y : Operand} {t : TypeId} {ev : Operand → Value} {w1 : World} (ho : o.op = .store t x y) (h : (Instr.storeAt t (ev x) (ev y)).run P w = .ok () w1) : (execOp ev o).run P w = .ok .skip w1 := by
  unfold execOp
  simp only [ho]
  simp [Sem.run_bind, h]
theorem idsL_app {p : Nat → Bool} : ∀ {l l' : List PV}, idsL p l = true → idsL p l' = true → idsL p (l ++ l') = true
  | [], _, _, h => h
  | x :: l, _, h, h' => by simp only [idsL, Bool.and_eq_true, List.cons_append] at h ⊢; exact ⟨h.1, idsL_app h.2 h'⟩
theorem Le.blk {S S' : AS} {i : Nat} {b : ABlk} (hl : Le S S') (h : S.σ i = b) (hb : b ≠ .no) : S'.σ i = b := by
  rcases hl.σ i with h1 | h1
  · rw [h] at h1; exact absurd h1 hb
  · rw [h1, h]
theorem store_ok {x y : Operand} {t : TypeId} {κ : Eff → Option ρ} (ho : o.op = .store t x y) (h : opStore P S id0 t (S.ev x) (S.ev y) κ = some r) : Sound P w0 N S id0 o κ r := by
  unfold opStore at h
  split at h
  · rename_i i off yc n hx hyc hsz
    split at h
    · rename_i T cs hσ
      rcases cond_some h with ⟨hok, hh⟩ | ⟨_, h2⟩
      · clear h
        obtain ⟨e1, e2, e3, e4⟩ := okStore_ok hok
        refine ⟨_, hh, ?_⟩
        intro S' m a w hl hf hr K Q hK
        have hr0 := hr.le hl
        have hσ' : S'.σ i = .box T cs := Le.blk hl hσ (by simp)
        have h1 := hr0.ev x
        rw [hx] at h1
        generalize hz : a.eval x = z at h1
        cases h1
        have hy := PV.cells_ok (hr0.ev y) hyc
        have hb := hr.heap.blk i
        rw [hσ'] at hb
        obtain ⟨b1, b2, vs, hvs, hh0⟩ := hb
        have hlen := hvs.len
        have hylen := hy.len
        simp only [Array.length_toList] at hylen
        have hrun := run_store (P := P) (t := t) (o := off) (v := a.eval y) hh0 (by rw [hsz, ← hylen, e1]) (by simp; omega) (all_one hy e3)
        have hrun' := run_store_op (ev := a.eval) (w := w) ho (by rw [hz]; exact hrun)
        unfold Oper.wp
        rw [hrun', Oper.upon_skip]
        have hs := heap_setCells (a.eval y).cells.toList off w _ hh0
        have hset : setFrom vs.toArray off (a.eval y).cells.toList = (setL vs off (a.eval y).cells.toList).toArray := by
          apply Array.ext'
          rw [setFrom_toList _ _ _ (by simp; omega)]
          rfl
        rw [hset] at hs
        have hg : Grows (old id0) m m w (w.setCells (m.b i) off (a.eval y).cells.toList) := ⟨fun _ _ => rfl, fun _ _ => rfl, fun k hk => ⟨hk, heap_setCells_other (fun (e : k = m.b i) => b2 (by rw [← e]; exact hk)) _ _ _⟩⟩
        have hids : idsL (old id0) (setL cs off yc) = true := by
          have h3 := hf.σ i
          rw [hσ'] at h3
          simp only [ABlk.ids] at h3
          have htd : ∀ (l : List PV) (q : Nat), idsL (old id0) l = true → idsL (old id0) (l.take q) = true ∧ idsL (old id0) (l.drop q) = true := by
            intro l
            induction l with
            | nil => intro q _; simp [idsL]
            | cons p l ih =>
              intro q hq
              simp only [idsL, Bool.and_eq_true] at hq
              cases q with
              | zero => simp [idsL, hq.1, hq.2]
              | succ q => simp [idsL, hq.1, (ih q hq.2).1, (ih q hq.2).2]
          unfold setL
          exact idsL_app (htd cs off h3).1 (idsL_app e4 (htd cs _ h3).2)
        refine hK m _ _ hg ?_ .v
        refine Heap.step (fun q => q = i) hr.heap hg hf.σ (fun q hq => ⟨by rw [updσ_one, if_neg hq], hf.p q⟩) (fun q k hq hk => ⟨heap_setCells_other (fun e => hr.heap.apart q i k hq hk (by rw [hσ', e]; rfl)) _ _ _, (blk_lt hr.heap hk).2.1⟩) (fun q hq => ?_) (fun q j k hqj hq h3 h4 => ?_) (fun k hk => by rw [size_setCells]; exact hr.heap.flt k hk) (hr.heap.below.trans (below_setCells b1 _ _ _))
        · subst hq
          rw [updσ_one, if_pos rfl]
          exact ⟨b1, b2, _, (RepVs.move hg hvs (by have h3 := hf.σ q; rw [hσ'] at h3; exact h3)).setL (RepVs.move hg hy e4) off, hs⟩
        · subst hq
          rw [updσ_one, if_pos rfl] at h3
          rw [updσ_one, if_neg (Ne.symm hqj)] at h4
          exact hr.heap.apart q j k hqj (by rw [hσ']; exact h3) h4
      · cases h2
    · cases h
  · rename_i i j sz off yc n hx hyc hsz
    split at h
    · rename_i fr T s l hσ
      rcases cond_some h with ⟨hok, hh⟩ | ⟨_, h2⟩
      · clear h
        rw [Bool.and_eq_true] at hok
        obtain ⟨e1, e2, e3, e4⟩ := okStore_ok hok.1
        have e5 := Nat.eq_of_beq_eq_true hok.2
        split at hh
        · rename_i y' f hun
          refine ⟨_, hh, ?_⟩
          intro S' m a w hl hf hr K Q hK
          have hr0 := hr.le hl
          have hσ' : S'.σ i = .own fr T s l := Le.blk hl hσ (by simp)
          have h1 := hr0.ev x
          rw [hx, e5] at h1
          generalize hz : a.eval x = z at h1
          cases h1 with | eptr hv hj0 hj1 =>
          rename_i g nn c
          have hy := PV.cells_ok (hr0.ev y) hyc
          have hb := hr.heap.blk i
          rw [hσ'] at hb
          obtain ⟨xs, b1, b2, b3⟩ := hb
          have hblk : (m.v i).ownBlock = some g := by rw [hv]; rfl
          obtain ⟨hnn, hcells, htup⟩ := own_cells (j := j.toNat) b1 b2 hv (by omega)
          have hjl : j.toNat < l.length := by omega
          have hylen := hy.len
          simp only [Array.length_toList] at hylen
          rcases b1.2 with ⟨hn, _⟩ | ⟨g', cap, cur, hv', hg', hh0, hc1, hc2, hc3, hc4⟩
          · rw [hv] at hn; cases hn
          have hgg : g' = g := by rw [hv] at hv'; cases hv'; rfl
          subst hgg
          have hmul : j.toNat * s.length + s.length ≤ l.length * s.length := by
            have : (j.toNat + 1) * s.length ≤ l.length * s.length := Nat.mul_le_mul_right _ hjl
            rwa [Nat.add_mul, Nat.one_mul] at this
          have hmul2 : l.length * s.length ≤ cap * s.length := Nat.mul_le_mul_right _ hc1
          have hxl : xs.length = l.length * s.length := b1.1
          have hcurl : cur.toList.length = cap * s.length := by simpa using hc3
          have hb1 : j.toNat * s.length + off + (a.eval y).cells.toList.length ≤ cur.toList.length := by rw [hcurl]; have hq := Array.length_toList (xs := (a.eval y).cells); omega
          have hb2 : j.toNat * s.length + off + (a.eval y).cells.toList.length ≤ xs.length := by rw [hxl]; have hq := Array.length_toList (xs := (a.eval y).cells); omega
          have hb3 : off + (a.eval y).cells.toList.length ≤ s.length := by have hq := Array.length_toList (xs := (a.eval y).cells); omega
          have hrun := run_store (P := P) (t := t) (o := j.toNat * s.length + off) (v := a.eval y) hh0 (by rw [hsz, ← hylen, e1]) (by have hq := Array.length_toList (xs := (a.eval y).cells); have hq' := Array.length_toList (xs := cur); omega) (all_one hy e3)
          have hrun' := run_store_op (ev := a.eval) (w := w) ho (by rw [hz]; exact hrun)
          unfold Oper.wp
          rw [hrun', Oper.upon_skip]
          have hs := heap_setCells (a.eval y).cells.toList (j.toNat * s.length + off) w _ hh0
          have hnF : ¬ m.F g' := b3 g' hblk
          have hg : Grows (old id0) m m w (w.setCells g' (j.toNat * s.length + off) (a.eval y).cells.toList) := ⟨fun _ _ => rfl, fun _ _ => rfl, fun k hk => ⟨hk, heap_setCells_other (fun (e : k = g') => hnF (by rw [← e]; exact hk)) _ _ _⟩⟩
          refine hK m _ _ hg ?_ .v
          refine Heap.step (fun q => q = i) hr.heap hg hf.σ (fun q hq => ⟨by rw [updσ_one, if_neg hq], hf.p q⟩) (fun q k hq hk => ⟨heap_setCells_other (fun e => hr.heap.apart q i k hq hk (by rw [hσ', e]; exact hblk)) _ _ _, (blk_lt hr.heap hk).2.1⟩) (fun q hq => ?_) (fun q j' k hqj hq h3 h4 => ?_) (fun k hk => by rw [size_setCells]; exact hr.heap.flt k hk) (hr.heap.below.trans (below_setCells hg' _ _ _))
          · subst hq
            rw [updσ_one, if_pos rfl]
            have hsetlen : (setL xs (j.toNat * s.length + off) (a.eval y).cells.toList).length = xs.length := setL_len _ _ _ hb2
            refine ⟨setL xs (j.toNat * s.length + off) (a.eval y).cells.toList, ⟨by rw [hsetlen, List.length_set]; exact hxl, .inr ⟨g', cap, _, by rw [List.length_set]; exact hv', hg', hs, by rw [List.length_set]; exact hc1, hc2, ?_, ?_⟩⟩, ?_, fun k hk => by rw [hblk] at hk; cases hk; exact hnF⟩
            · rw [← Array.length_toList, setFrom_toList _ _ _ hb1, ← hcurl]
              exact setL_len cur.toList (a.eval y).cells.toList _ hb1
            · rw [setFrom_toList _ _ _ hb1, List.length_set]
              apply List.ext_getElem?
              intro q
              show (((setL cur.toList (j.toNat * s.length + off) (a.eval y).cells.toList)).take (l.length * s.length))[q]? = _
              rw [setL_get _ _ _ _ hb2]
              by_cases hq : q < l.length * s.length
              · rw [List.getElem?_take_of_lt hq, setL_get _ _ _ _ hb1]
                split
                · rfl
                · rw [← hc4, List.getElem?_take_of_lt hq]
              · rw [List.getElem?_eq_none (by rw [List.length_take]; omega), if_neg (by rw [hxl] at hb2; omega), List.getElem?_eq_none (by omega)]
            · intro q x' hq
              by_cases hqj : q = j.toNat
              · subst hqj
                rw [List.getElem?_set_self hjl] at hq
                cases hq
                rw [seg_same hb3 (by omega)]
                have h5 := unT_ok hr0 hun ((cellsT_ok htup).setL hy off)
                refine TupIs.move (fun b hb => ?_) h5
                have hFb : m.F b := hb.1.elim id (fun ⟨i, hi, _⟩ => by cases hi)
                refine ⟨⟨hFb, fun hff => ?_⟩, heap_setCells_other (fun (e : b = g') => hnF (by rw [← e]; exact hFb)) _ _ _⟩
                simp only [Bool.and_eq_true] at hff
                exact hb.2 hff.2
              · rw [List.getElem?_set_ne (Ne.symm hqj)] at hq
                rw [seg_other hb3 hb2 hqj]
                refine TupIs.move (fun b hb => ⟨⟨hb.1, fun hff => ?_⟩, heap_setCells_other (fun (e : b = g') => hnF (by rw [← e]; exact hb.1)) _ _ _⟩) (b2 q x' hq)
                simp only [Bool.and_eq_true] at hff
                exact hb.2 hff.1
          · subst hq
            rw [updσ_one, if_pos rfl] at h3
            rw [updσ_one, if_neg (Ne.symm hqj)] at h4
            exact hr.heap.apart q j' k hqj (by rw [hσ']; exact h3) h4
        · cases hh
      · cases h2
    · cases h
  · cases h
end
end Go.Proofs.YtaknikdbnfmlfaaDoor.Ex
/- An executor of translated code on abstract states, tenth part: places in rows and arrays, cuts of rows. -/
namespace Go.Proofs.YtaknikdbnfmlfaaDoor.Ex
open Go Go.RowKit
set_option linter.unusedVariables false
set_option linter.unusedSimpArgs false
section
variable {P : Program} {w0 : Org} {w : World} {N : Nat} {S : AS} {o : Oper} {ρ : Type} {r : ρ} {id0 : Nat}
def idxArr (x : PV) (sz : Nat) (n : Int) (κ : PV → Option ρ) : Nat → Nat → Option ρ
  | 0, _ => none
  | f + 1, q => bif decide (n = (q : Int)) then match x.moved (q * sz) with
      | some p => κ p
      | none => none
    else idxArr x sz n κ f (q + 1)
theorem idxArr_ok {x : PV} {sz : Nat} {n : Int} {κ : PV → Option ρ} : ∀ {f q : Nat}, idxArr x sz n κ f q = some r → ∃ (j : Nat) (p : PV), n = (j : Int) ∧ j < q + f ∧ x.moved (j * sz) = some p ∧ κ p = some r
  | 0, q, h => by cases h
  | f + 1, q, h => by
    rcases cond_some h with ⟨h1, hh⟩ | ⟨_, hh⟩
    · have hn := of_decide_eq_true h1
      split at hh
      · rename_i p hp; exact ⟨q, p, hn, by omega, hp, hh⟩
      · cases hh
    · obtain ⟨j, p, h2, h3, h4⟩ := idxArr_ok hh
      exact ⟨j, p, h2, by omega, h4⟩
def opIdx (P : Program) (S : AS) (t : TypeId) (x i : PV) (κ : PV → Option ρ) : Option ρ := match P.underlying t, i with
  | some (.slice e), .v (.int _ n) => match sizeB P e, x with
    | some sz, .row fr s l => bif Nat.beq sz s.length then bif decide (0 ≤ n) then bif decide (n < (l.length : Int)) then κ (.rptr fr s (l.getD n.toNat (zT s)) 0) else none else none else none
    | some sz, .own i => match S.σ i with
      | .own _ _ s l => bif Nat.beq sz s.length && Nat.blt 0 sz then bif decide (0 ≤ n) then bif decide (n < (l.length : Int)) then κ (.eptr i n sz 0) else none else none else none
      | _ => none
    | _, _ => none
  | some (.array len e), .v (.int _ n) => match sizeB P e with
    | some sz => idxArr x sz n κ len 0
    | none => none
  | _, _ => none
theorem run_index {x i : Operand} {t : TypeId} {ev : Operand → Value} {v : Value} (ho : o.op = .indexAddr t x i) (h : (Instr.indexAt t (ev x) (ev i)).run P w = .ok v w) : (execOp ev o).run P w = .ok (.value v) w := run_of (by unfold execOp; simp only [ho]) h
theorem idx_ok {x i : Operand} {t : TypeId} {κ : PV → Option ρ} (ho : o.op = .indexAddr t x i) (h : opIdx P S t (S.ev x) (S.ev i) κ = some r) : SoundV P w0 N S o κ r := by
  unfold opIdx at h
  split at h
  · rename_i e k n hu hi
    split at h
    · rename_i sz fr s l hs hx
      rcases cond_some h with ⟨hsz, h1⟩ | ⟨_, h2⟩
      · rcases cond_some h1 with ⟨h0, h1⟩ | ⟨_, h2⟩
        · rcases cond_some h1 with ⟨hlt, hh⟩ | ⟨_, h2⟩
          · clear h
            have e0 := of_decide_eq_true h0
            have e1 := of_decide_eq_true hlt
            have e2 := Nat.eq_of_beq_eq_true hsz
            refine ⟨_, hh, fun m a w hr => ?_⟩
            have h3 := hr.ev x
            rw [hx] at h3
            generalize hz : a.eval x = z at h3
            cases h3 with | row h3 =>
            simp only [SKIs] at h3
            obtain ⟨A, c, rfl, hc, hrow⟩ := h3
            have hl : n.toNat < l.length := by omega
            obtain ⟨b, o', cs, rfl, hok, hlen, hcs, ht⟩ := hrow n.toNat l[n.toNat] (List.getElem?_eq_getElem hl)
            have hg : l.getD n.toNat (zT s) = l[n.toNat] := by rw [List.getD_eq_getElem?_getD, List.getElem?_eq_getElem hl]; rfl
            refine ⟨.pointer (some ⟨b, o' + n.toNat * sz + 0, none⟩), run_index ho ?_, .rptr ?_⟩
            · rw [hz, ev_v hr hi]
              simp only [Instr.indexAt, asIntOf, Sem.run_bind, run_underlying hu, Result.andThen_ok, Sem.run_pure]
              rw [if_pos ⟨e0, e1⟩]
              simp [Sem.run_bind, sizeB_ok hs, Addr.add_mid]
            · simp only [SKIs]
              exact ⟨b, _, cs, rfl, hok, hlen, by rw [e2]; exact hcs, by rw [hg]; exact ht⟩
          · cases h2
        · cases h2
      · cases h2
    · rename_i sz i' hs hx
      split at h
      · rename_i fr T s l hσ
        rcases cond_some h with ⟨hsz, h1⟩ | ⟨_, h2⟩
        · rcases cond_some h1 with ⟨h0, h1⟩ | ⟨_, h2⟩
          · rcases cond_some h1 with ⟨hlt, hh⟩ | ⟨_, h2⟩
            · clear h
              have e0 := of_decide_eq_true h0
              have e1 := of_decide_eq_true hlt
              refine ⟨_, hh, fun m a w hr => ?_⟩
              have h3 := hr.ev x
              rw [hx] at h3
              generalize hz : a.eval x = z at h3
              cases h3 with | own h3 =>
              have hb := hr.heap.blk i'
              rw [hσ] at hb
              obtain ⟨xs, b1, b2, b3⟩ := hb
              rcases b1.2 with ⟨hn, hn0⟩ | ⟨g', cap, cur, hv', hg', _⟩
              · rw [hn0] at e1; omega
              · have hv2 := hv'
                rw [h3] at hv'
                cases hv'
                refine ⟨.pointer (some ⟨g', n.toNat * sz + 0, none⟩), run_index ho ?_, .eptr hv2 e0 e1⟩
                rw [hz, ev_v hr hi]
                simp only [Instr.indexAt, asIntOf, Sem.run_bind, run_underlying hu, Result.andThen_ok, Sem.run_pure]
                rw [if_pos ⟨e0, e1⟩]
                simp [Sem.run_bind, sizeB_ok hs, Addr.add_mid]
            · cases h2
          · cases h2
        · cases h2
      · cases h
    · cases h
  · rename_i len e k n hu hi
    split at h
    · rename_i sz hs
      obtain ⟨j, p, rfl, hj, hp, hh⟩ := idxArr_ok h
      refine ⟨_, hh, fun m a w hr => ?_⟩
      obtain ⟨b, off, hv, hrv⟩ := moved_ok hp (hr.ev x)
      refine ⟨_, run_index ho ?_, hrv⟩
      rw [hv, ev_v hr hi]
      have h1 : (0 : Int) ≤ (j : Int) ∧ (j : Int) < (len : Int) := ⟨by omega, by omega⟩
      simp only [Instr.indexAt, asIntOf, Sem.run_bind, run_underlying hu, Result.andThen_ok, Sem.run_pure, Instr.sureAddr]
      rw [if_pos h1]
      simp [Sem.run_bind, sizeB_ok hs, Addr.add_mid]
    · cases h
  · cases h
/-! ### cuts -/
def bound (x : Option PV) : Option (Option Int) := match x with
  | none => some none
  | some (.v (.int _ n)) => some (some n)
  | some _ => none
theorem row_take {ok : Nat → Prop} {s : List SK} {l : List (Tup s)} {A : Option Addr} {c n k : Nat} (h : SKIs ok w (.row s) l (.slice A l.length c)) (hk : k ≤ l.length) : SKIs ok w (.row s) (l.take k) (.slice A k c) := by
  simp only [SKIs] at h ⊢
  obtain ⟨A', c', he, hc, hr⟩ := h
  cases he
  have hl : (l.take k).length = k := by rw [List.length_take]; omega
  refine ⟨A, c, by rw [hl], by rw [hl]; omega, fun i x hx => ?_⟩
  have hi : i < k := by
    have := (List.getElem?_eq_some_iff.1 hx).1
    omega
  rw [List.getElem?_take_of_lt hi] at hx
  exact hr i x hx
theorem row_drop {ok : Nat → Prop} {s : List SK} {l : List (Tup s)} {A : Option Addr} {c k : Nat} (h : SKIs ok w (.row s) l (.slice A l.length c)) (hk : k ≤ l.length) : SKIs ok w (.row s) (l.drop k) (.slice (if c = k then A else A.map (·.add (k * s.length))) (l.length - k) (c - k)) := by
  simp only [SKIs] at h ⊢
  obtain ⟨A', c', he, hc, hr⟩ := h
  cases he
  have hl : (l.drop k).length = l.length - k := by rw [List.length_drop]
  refine ⟨_, _, by rw [hl], by rw [hl]; omega, fun i x hx => ?_⟩
  have hi : i < l.length - k := by
    have := (List.getElem?_eq_some_iff.1 hx).1
    omega
  rw [List.getElem?_drop] at hx
  obtain ⟨b, o, cs, rfl, hok, hlen, hcs, ht⟩ := hr (k + i) x hx
  refine ⟨b, o + k * s.length, cs, ?_, hok, hlen, ?_, ht⟩
  · rw [if_neg (by omega)]
    simp [Addr.add_mid]
  · rw [Nat.add_mul, ← Nat.add_assoc] at hcs
    exact hcs
def opCut (P : Program) (S : AS) (t : TypeId) (x : PV) (lo hi : Option PV) (κ : PV → Option ρ) : Option ρ := match P.underlying t, x, bound lo, bound hi with
  | some (.slice e), .row fr s l, some lo, some hi => match sizeB P e with
    | some sz => bif Nat.beq sz s.length then match lo, hi with
      | none, some h => bif decide (0 ≤ h) then bif decide (h ≤ (l.length : Int)) then κ (.row fr s (l.take h.toNat)) else none else none
      | some a, none => bif decide (0 ≤ a) then bif decide (a ≤ (l.length : Int)) then κ (.row fr s (l.drop a.toNat)) else none else none
      | some a, some h => bif decide (0 ≤ a) then bif decide (a ≤ h) then bif decide (h ≤ (l.length : Int)) then κ (.row fr s ((l.take h.toNat).drop a.toNat)) else none else none else none
      | none, none => none else none
    | none => none
  | _, _, _, _ => none
theorem bound_ok {m : Nm} {a : Act} (hr : Rep w0 N m S a w) {x : Option Operand} {n : Option Int} (h : bound (x.map S.ev) = some n) : ∃ k, x.map a.eval = n.map (Value.int k) := by
  unfold bound at h
  cases x with
  | none => simp only [Option.map_none] at h; cases h; exact ⟨.i64, rfl⟩
  | some x =>
    simp only [Option.map_some] at h
    split at h
    · rename_i he; cases he
    · rename_i k n' he
      cases h
      exact ⟨k, by rw [Option.map_some, ev_v hr (Option.some.inj he)]; rfl⟩
    · cases h
theorem cut_ok {x : Operand} {lo hi : Option Operand} {t : TypeId} {κ : PV → Option ρ} (ho : o.op = .slice t x lo hi none) (h : opCut P S t (S.ev x) (lo.map S.ev) (hi.map S.ev) κ = some r) : SoundV P w0 N S o κ r := by
  unfold opCut at h
  split at h
  · rename_i e fr s l lo' hi' hu hx hlo hhi
    split at h
    · rename_i sz hs
      rcases cond_some h with ⟨hsz, h⟩ | ⟨_, h2⟩
      · have e2 := Nat.eq_of_beq_eq_true hsz
        have hel : P.elem t = e := by simp [Program.elem, hu]
        have hu' : P.underlying t = some (.slice (P.elem t)) := by rw [hel]; exact hu
        have hsa : ∀ v lo hi w, (Instr.sliceAt t v lo hi none).run P w = (Instr.slice t v lo hi none).run P w := fun v lo hi w => by
          simp only [Instr.sliceAt, Sem.run_bind, run_underlying hu, Result.andThen_ok]
        have hrun : ∀ a : Act, ∀ v w, (Instr.slice t (a.eval x) (lo.map a.eval) (hi.map a.eval) none).run P w = .ok v w → (execOp a.eval o).run P w = .ok (.value v) w := fun a v w hv =>
          run_of (s := Instr.sliceAt t (a.eval x) (lo.map a.eval) (hi.map a.eval) none) (by unfold execOp; simp only [ho, Option.map_none]) (by rw [hsa]; exact hv)
        have hval : ∀ m a w, Rep w0 N m S a w → ∃ A c, a.eval x = .slice A l.length c ∧ l.length ≤ c ∧ SKIs (okOf m w0.heap.size fr) w (.row s) l (.slice A l.length c) := fun m a w hr => by
          have h3 := hr.ev x
          rw [hx] at h3
          generalize hz : a.eval x = z at h3
          cases h3 with | row h3 =>
          have h4 := h3
          simp only [SKIs] at h4
          obtain ⟨A, c, rfl, hc, _⟩ := h4
          exact ⟨A, c, rfl, hc, h3⟩
        rcases lo' with _ | al <;> rcases hi' with _ | hq
        · cases h
        · rcases cond_some h with ⟨h0, h⟩ | ⟨_, h2⟩
          · rcases cond_some h with ⟨h1, hh⟩ | ⟨_, h2⟩
            · have e0 := of_decide_eq_true h0
              have e1 := of_decide_eq_true h1
              refine ⟨_, hh, fun m a w hr => ?_⟩
              obtain ⟨A, c, hv, hc, hrow⟩ := hval m a w hr
              obtain ⟨k1, b1⟩ := bound_ok hr hlo
              obtain ⟨k2, b2⟩ := bound_ok hr hhi
              have := row_take (n := 0) hrow (k := hq.toNat) (by omega)
              refine ⟨_, hrun a _ w ?_, .row this⟩
              rw [hv, b1, b2]
              simp only [Option.map_none, Option.map_some]
              rw [run_slice_h w t A l.length c hu' k2 hq e0 (by omega), hel]
              simp only [sizeB_ok hs, Result.andThen_ok, sliced]
              have ha : (A.map fun x => x.add (0 * sz)) = A := by cases A <;> simp [Addr.add]
              simp [ha]
              intro _
              cases A <;> simp [Addr.add]
            · cases h2
          · cases h2
        · rcases cond_some h with ⟨h0, h⟩ | ⟨_, h2⟩
          · rcases cond_some h with ⟨h1, hh⟩ | ⟨_, h2⟩
            · have e0 := of_decide_eq_true h0
              have e1 := of_decide_eq_true h1
              refine ⟨_, hh, fun m a w hr => ?_⟩
              obtain ⟨A, c, hv, hc, hrow⟩ := hval m a w hr
              obtain ⟨k1, b1⟩ := bound_ok hr hlo
              obtain ⟨k2, b2⟩ := bound_ok hr hhi
              have := row_drop hrow (k := al.toNat) (by omega)
              refine ⟨_, hrun a _ w ?_, .row this⟩
              rw [hv, b1, b2]
              simp only [Option.map_none, Option.map_some]
              rw [run_slice_l w t A l.length c hu' k1 al e0 (by omega), hel]
              simp only [sizeB_ok hs, Result.andThen_ok, sliced, ← e2]
            · cases h2
          · cases h2
        · rcases cond_some h with ⟨h0, h⟩ | ⟨_, h2⟩
          · rcases cond_some h with ⟨h1, h⟩ | ⟨_, h2⟩
            · rcases cond_some h with ⟨h3, hh⟩ | ⟨_, h2⟩
              · have e0 := of_decide_eq_true h0
                have e1 := of_decide_eq_true h1
                have e3 := of_decide_eq_true h3
                refine ⟨_, hh, fun m a w hr => ?_⟩
                obtain ⟨A, c, hv, hc, hrow⟩ := hval m a w hr
                obtain ⟨k1, b1⟩ := bound_ok hr hlo
                obtain ⟨k2, b2⟩ := bound_ok hr hhi
                have t1 := row_take (n := 0) hrow (k := hq.toNat) (by omega)
                have hlt : (l.take hq.toNat).length = hq.toNat := by rw [List.length_take]; omega
                have t2 : SKIs (okOf m w0.heap.size fr) w (.row s) (l.take hq.toNat) (.slice A (l.take hq.toNat).length c) := by rw [hlt]; exact t1
                have := row_drop (l := l.take hq.toNat) t2 (k := al.toNat) (by rw [hlt]; omega)
                refine ⟨_, hrun a _ w ?_, .row this⟩
                rw [hv, b1, b2]
                simp only [Option.map_some]
                rw [run_slice_lh w t A l.length c hu' k1 k2 al hq e0 e1 (by omega), hel]
                simp only [sizeB_ok hs, Result.andThen_ok, sliced, ← e2, hlt]
              · cases h2
            · cases h2
          · cases h2
      · cases h2
    · cases h
  · cases h
end
end Go.Proofs.YtaknikdbnfmlfaaDoor.Ex
/- An executor of translated code on abstract states, eleventh part: rows that are made, and grow. -/
namespace Go.Proofs.YtaknikdbnfmlfaaDoor.Ex
open Go Go.RowKit
set_option linter.unusedVariables false
set_option linter.unusedSimpArgs false
/-- A row's blocks behind a step: dl are let go of, fl are written no more, id0 is new. -/
theorem Heap.newrow {w0 : Org} {w w' : World} {m : Nm} {S : AS} {id0 : Nat} {dl fl : List Nat} {row : Option Nat} {fr : Bool} {T : TypeId} {s : List SK} {l : List (Tup s)} {xs : List Value} {v' : Value} (h : Heap w0 m S.σ w) (hf : Fresh id0 S) (hgr : w.grownBy w' row)
    (hrow : ∀ k, row = some k → ∃ i ∈ dl, blkOf m i (S.σ i) k) (hfl : ∀ i ∈ fl, ∃ fr T s l, S.σ i = .own fr T s l) (hdis : ∀ i ∈ fl, i ∉ dl) (hv : ∀ k, v'.ownBlock = some k → row = some k ∨ w.heap.size ≤ k)
    (hown : w'.ownsRow w0.heap.size T s.length v' l.length xs) (hR : RowsIs (okOf ⟨m.v, m.b, frz m fl⟩ w0.heap.size fr) w' s l xs) :
    ∃ m', Grows (old id0) m m' w w' ∧ Heap w0 m' (updσ S.σ (outs (dl ++ fl) ++ [(id0, .own fr T s l)])) w' ∧ m'.v id0 = v' := by
  let m' : Nm := ⟨setAt m.v id0 v', m.b, frz m fl⟩
  have hrow2 : ∀ k, row = some k → k < w.heap.size ∧ ¬ m.F k ∧ w0.heap.size ≤ k := fun k hk => by
    obtain ⟨i, _, hi⟩ := hrow k hk
    exact blk_lt h hi
  have hflb : ∀ i ∈ fl, ∀ k, (m.v i).ownBlock = some k → blkOf m i (S.σ i) k := fun i hi k hk => by
    obtain ⟨fr, T, s, l, hσ⟩ := hfl i hi
    rw [hσ]
    exact hk
  have hg : Grows (old id0) m m' w w' := ⟨fun i hi => setAt_ne (old_ne (k := 0) (by decide) hi), fun _ _ => rfl, fun b hb => ⟨.inl hb, hgr.block b (h.flt b hb) (fun e => (hrow2 b e.symm).2.1 hb)⟩⟩
  have hnew : ∀ k, v'.ownBlock = some k → ¬ frz m fl k := fun k hk hfz => by
    rcases hv k hk with h1 | h1
    · obtain ⟨i, hi, hib⟩ := hrow k h1
      rcases hfz with h2 | ⟨j, hj, hjb⟩
      · exact (hrow2 k h1).2.1 h2
      · exact h.apart i j k (fun e => hdis j hj (e ▸ hi)) hib (hflb j hj k hjb)
    · rcases hfz with h2 | ⟨j, hj, hjb⟩
      · have := h.flt k h2; omega
      · have := (blk_lt h (hflb j hj k hjb)).1; omega
  refine ⟨m', hg, ?_, setAt_self _ _ _⟩
  have hσ' : ∀ i, updσ S.σ (outs (dl ++ fl) ++ [(id0, .own fr T s l)]) i = if i = id0 then .own fr T s l else if i ∈ dl ++ fl then .no else S.σ i := fun i => updσ_last _ _ _ _ _
  refine Heap.step (fun i => i = id0 ∨ i ∈ dl ++ fl) h hg hf.σ (fun i hi => ⟨by rw [hσ', if_neg (fun e => hi (.inl e)), if_neg (fun e => hi (.inr e))], hf.p i⟩) (fun i k hi hk => ?_) (fun i hi => ?_) (fun i j k hij hi h1 h2 => ?_) (fun k hk => ?_) ?_
  · have hlt := blk_lt h hk
    refine ⟨hgr.block k hlt.1 (fun e => ?_), fun hfz => ?_⟩
    · obtain ⟨j, hj, hjb⟩ := hrow k e.symm
      exact h.apart i j k (fun e => hi (.inr (List.mem_append_left _ (e ▸ hj)))) hk hjb
    · rcases hfz with h2 | ⟨j, hj, hjb⟩
      · exact hlt.2.1 h2
      · exact h.apart i j k (fun e => hi (.inr (List.mem_append_right _ (e ▸ hj)))) hk (hflb j hj k hjb)
  · rw [hσ']
    by_cases h1 : i = id0
    · rw [if_pos h1]
      subst h1
      refine ⟨xs, ?_, hR, fun k hk => hnew k ?_⟩
      · show w'.ownsRow _ _ _ (setAt m.v i v' i) _ _
        rw [setAt_self]; exact hown
      · have : (setAt m.v i v' i).ownBlock = some k := hk
        rwa [setAt_self] at this
    · rw [if_neg h1, if_pos (hi.resolve_left h1)]
      trivial
  · rw [hσ'] at h1
    by_cases hi0 : i = id0
    · rw [if_pos hi0] at h1
      subst hi0
      have h1' : v'.ownBlock = some k := by
        have : (setAt m.v i v' i).ownBlock = some k := h1
        rwa [setAt_self] at this
      rw [hσ', if_neg (Ne.symm hij)] at h2
      by_cases hj : j ∈ dl ++ fl
      · rw [if_pos hj] at h2; cases h2
      · rw [if_neg hj, blkOf.same hg (hf.σ j) (hf.p j)] at h2
        rcases hv k h1' with h3 | h3
        · obtain ⟨q, hq, hqb⟩ := hrow k h3
          exact h.apart q j k (fun e => hj (List.mem_append_left _ (e ▸ hq))) hqb h2
        · have := (blk_lt h h2).1; omega
    · rw [if_neg hi0, if_pos (hi.resolve_left hi0)] at h1
      cases h1
  · rcases hk with h2 | ⟨j, hj, hjb⟩
    · exact Nat.lt_of_lt_of_le (h.flt k h2) hgr.size
    · exact Nat.lt_of_lt_of_le (blk_lt h (hflb j hj k hjb)).1 hgr.size
  · exact h.below.grown hgr h.below.size (fun k hk => (hrow2 k hk).2.2)
mutual
/-- The kind of a type's data. -/
def skOf (P : Program) : Nat → TypeId → Option (List SK)
  | 0, _ => none
  | d + 1, t => match P.underlying t with
    | some (.int k) => some [.int k]
    | some .bool => some [.bool]
    | some .string => some [.str]
    | some (.pointer _) => some [.adr]
    | some (.slice e) => match skOf P d e with
      | some s => some [.row s]
      | none => none
    | some (.struct fs) => skFs P d fs.toList
    | some (.array n e) => match skOf P d e with
      | some s => some ((List.replicate n s).flatten)
      | none => none
    | _ => none
def skFs (P : Program) : Nat → List Field → Option (List SK)
  | 0, _ => none
  | d + 1, fs => match fs with
    | [] => some []
    | f :: r => match skOf P d f.type, skFs P d r with
      | some a, some b => some (a ++ b)
      | _, _ => none
end
/-- Cells cut into data. -/
def unTs (S : AS) (s : List SK) : Nat → List PV → Option (List (Tup s) × Bool × List Nat)
  | 0, _ => some ([], true, [])
  | n + 1, cs => match unT S s (cs.take s.length), unTs S s n (cs.drop s.length) with
    | some (x, f, i), some (l, g, j) => some (x :: l, f && g, i ++ j)
    | _, _ => none
theorem unK_own {S : AS} {k : SK} {x : PV} {y : k.ty} {f : Bool} {l : List Nat} (h : unK S k x = some (y, f, l)) : ∀ i ∈ l, ∃ fr T s l, S.σ i = .own fr T s l := by
  cases k with
  | row s =>
    simp only [unK] at h
    split at h
    · split at h
      · cases h; intro i hi; cases hi
      · cases h
    · rename_i i
      split at h
      · rename_i fr T s' l' hσ
        split at h
        · cases h
          intro j hj
          simp at hj
          subst hj
          exact ⟨_, _, _, _, hσ⟩
        · cases h
      · cases h
    · cases h; intro i hi; cases hi
    · cases h
  | adr =>
    simp only [unK] at h
    split at h
    · split at h
      · cases h; intro i hi; cases hi
      · cases h
    · cases h
  | fnc f =>
    simp only [unK] at h
    split at h
    · rcases cond_some h with ⟨_, h2⟩ | ⟨_, h2⟩
      · cases h2; intro i hi; cases hi
      · cases h2
    · cases h
  | int k =>
    simp only [unK] at h
    split at h
    · rcases cond_some h with ⟨_, h2⟩ | ⟨_, h2⟩
      · cases h2; intro i hi; cases hi
      · cases h2
    · cases h
  | bool =>
    simp only [unK] at h
    split at h
    · cases h; intro i hi; cases hi
    · cases h
  | str =>
    simp only [unK] at h
    split at h
    · cases h; intro i hi; cases hi
    · cases h
  | ptr s => simp [unK] at h
theorem unT_own {S : AS} : ∀ {s : List SK} {cs : List PV} {y : Tup s} {f : Bool} {l : List Nat}, unT S s cs = some (y, f, l) → ∀ i ∈ l, ∃ fr T s l, S.σ i = .own fr T s l
  | [], cs, y, f, l, h => by
    simp only [unT] at h
    split at h
    · cases h; intro i hi; cases hi
    · cases h
  | [k], cs, y, f, l, h => by
    match cs, h with
    | [], h => simp only [unT] at h; exact absurd h (by simp)
    | [c], h => simp only [unT] at h; exact unK_own h
    | _ :: _ :: _, h => simp only [unT] at h; exact absurd h (by simp)
  | k :: k' :: r, cs, y, f, l, h => by
    simp only [unT] at h
    split at h
    · split at h
      · rename_i x1 f1 i1 y1 g1 j1 h1 h2
        cases h
        intro i hi
        rcases List.mem_append.1 hi with hi | hi
        · exact unK_own h1 i hi
        · exact unT_own h2 i hi
      · cases h
    · cases h
theorem unTs_own {S : AS} {s : List SK} : ∀ {n : Nat} {cs : List PV} {y : List (Tup s)} {f : Bool} {l : List Nat}, unTs S s n cs = some (y, f, l) → ∀ i ∈ l, ∃ fr T s l, S.σ i = .own fr T s l
  | 0, cs, y, f, l, h => by cases h; intro i hi; cases hi
  | n + 1, cs, y, f, l, h => by
    simp only [unTs] at h
    split at h
    · rename_i x1 f1 i1 y1 g1 j1 h1 h2
      cases h
      intro i hi
      rcases List.mem_append.1 hi with hi | hi
      · exact unT_own h1 i hi
      · exact unTs_own h2 i hi
    · cases h
theorem RowsIs.nil {ok : Nat → Prop} {w : World} {s : List SK} {xs : List Value} : RowsIs ok w s [] xs := fun i x hx => by simp at hx
theorem RowsIs.cons {ok : Nat → Prop} {w : World} {s : List SK} {x : Tup s} {l : List (Tup s)} {xs : List Value} (h : TupIs ok w s x (xs.take s.length)) (hs : RowsIs ok w s l (xs.drop s.length)) : RowsIs ok w s (x :: l) xs := fun i y hy => by
  cases i with
  | zero => simp only [List.getElem?_cons_zero, Option.some.injEq] at hy; subst hy; simpa using h
  | succ i =>
    have := hs i y (by simpa using hy)
    rw [List.drop_drop] at this
    rw [Nat.succ_mul, Nat.add_comm]
    exact this
theorem unTs_ok {w0 : Org} {N : Nat} {m : Nm} {S : AS} {a : Act} {w : World} (hr : Rep w0 N m S a w) {s : List SK} : ∀ {n : Nat} {cs : List PV} {vs : List Value} {y : List (Tup s)} {f : Bool} {l : List Nat}, unTs S s n cs = some (y, f, l) → RepVs m w0.heap.size w cs vs → y.length = n ∧ RowsIs (okOf ⟨m.v, m.b, frz m l⟩ w0.heap.size f) w s y vs
  | 0, cs, vs, y, f, l, h, hx => by cases h; exact ⟨rfl, RowsIs.nil⟩
  | n + 1, cs, vs, y, f, l, h, hx => by
    simp only [unTs] at h
    split at h
    · rename_i x1 f1 i1 y1 g1 j1 h1 h2
      cases h
      have t1 := unT_ok hr h1 (hx.take s.length)
      obtain ⟨e1, t2⟩ := unTs_ok hr h2 (hx.drop s.length)
      refine ⟨by simp [e1], RowsIs.cons (TupIs.move (fun b hb => ?_) t1) (RowsIs.move (fun b hb => ?_) t2)⟩
      · exact ⟨⟨hb.1.imp id (fun ⟨i, hi, h⟩ => ⟨i, List.mem_append_left _ hi, h⟩), fun hfg => hb.2 (by simp at hfg; exact hfg.1)⟩, rfl⟩
      · exact ⟨⟨hb.1.imp id (fun ⟨i, hi, h⟩ => ⟨i, List.mem_append_right _ hi, h⟩), fun hfg => hb.2 (by simp at hfg; exact hfg.2)⟩, rfl⟩
    · cases h
theorem foldl_set_size (off : Nat) : ∀ (zl : List (Value × Nat)) (cells : Array Value), (zl.foldl (fun cs (c, j) => cs.setIfInBounds (off + j) c) cells).size = cells.size
  | [], cells => rfl
  | x :: zl, cells => by rw [List.foldl_cons, foldl_set_size off zl]; simp
theorem fill_len {place : Nat → Option (Nat × Nat)} : ∀ {ps : List (Nat × Value)} {cells out : Array Value}, Instr.fill place cells ps = some out → out.size = cells.size
  | [], cells, out, h => by cases h; rfl
  | (i, v) :: ps, cells, out, h => by
    simp only [Instr.fill] at h
    split at h
    · cases h
    · split at h
      · cases h
      · rw [fill_len h, ← Array.foldl_toList]
        exact foldl_set_size _ _ _
theorem RepVs.blank {m : Nm} {B0 : Nat} {w : World} : ∀ (vs : List Value), RepVs m B0 w (List.replicate vs.length .un) vs
  | [] => .nil
  | v :: vs => .cons .un (RepVs.blank vs)
section
variable {P : Program} {w0 : Org} {w : World} {N : Nat} {S : AS} {o : Oper} {ρ : Type} {r : ρ} {id0 : Nat}
def opLit (P : Program) (S : AS) (id0 : Nat) (t : TypeId) (len : Nat) (parts : Array (Nat × Operand)) (κ : Eff → Option ρ) : Option ρ := match P.underlying t with
  | some (.slice e) => match sizeB P e, skOf P 40 e, zeroB P e with
    | some sz, some s, some _ => bif Nat.beq sz s.length && (Nat.ble (len * sz) 1000 && Nat.ble len 1000) then match fillB (fun i => some (i * sz, sz)) (List.replicate (len * sz) .un) (parts.toList.map fun e => (e.1, S.ev e.2)) with
      | some cs => match unTs S s len cs with
        | some (l, f, fl) => κ ⟨.own id0, outs ([] ++ fl) ++ [(id0, .own f e s l)]⟩
        | none => none
      | none => none else none
    | _, _, _ => none
  | _ => none
theorem run_lit {t e : TypeId} {len sz : Nat} {parts : Array (Nat × Value)} {zero : Value} (hu : P.underlying t = some (.slice e)) (hs : sizeB P e = some sz) (hz : zeroB P e = some zero) (hle : len * sz ≤ 1000) (w : World) :
    ∃ z0 : Array Value, z0.size = len * sz ∧ ∀ us, Instr.fill (fun i => some (i * sz, sz)) z0 parts.toList = some us → (Instr.buildSlice t len parts).run P w = .ok (.slice (some ⟨w.heap.size, 0, none⟩) len len) (w.alloc (.cells us e)) := by
  have hn : ¬ (len * sz > 2 ^ 24) := by omega
  by_cases h0 : len * sz = 0
  · refine ⟨(Array.range (len * sz)).map ((#[] : Array Value)[· % (#[] : Array Value).size]!), by simp, fun us h1 => ?_⟩
    simp only [Instr.buildSlice, Sem.run_bind, run_underlying hu, Result.andThen_ok, sizeB_ok hs, if_neg hn, if_pos h0]
    simp only [Sem.run_pure, Result.andThen_ok]
    rw [h1]
    rfl
  · refine ⟨(Array.range (len * sz)).map (zero.cells[· % zero.cells.size]!), by simp, fun us h1 => ?_⟩
    simp only [Instr.buildSlice, Sem.run_bind, run_underlying hu, Result.andThen_ok, sizeB_ok hs, if_neg hn, if_neg h0, zeroB_ok hz, Sem.run_pure]
    rw [h1]
    rfl
def evp (ev : Operand → Value) (parts : Array (Nat × Operand)) : Array (Nat × Value) := parts.map fun e => (e.1, ev e.2)
theorem exec_lit {t : TypeId} {len : Nat} {parts : Array (Nat × Operand)} {ev : Operand → Value} {v : Value} {w1 : World} (ho : o.op = .buildSlice t len parts) (h : (Instr.buildSlice t len (evp ev parts)).run P w = .ok v w1) : (execOp ev o).run P w = .ok (.value v) w1 :=
  run_of_w (s := Instr.buildSlice t len (evp ev parts)) (by unfold execOp; simp only [ho]; rfl) h
theorem lit_ok {t : TypeId} {len : Nat} {parts : Array (Nat × Operand)} {κ : Eff → Option ρ} (ho : o.op = .buildSlice t len parts) (h : opLit P S id0 t len parts κ = some r) : Sound P w0 N S id0 o κ r := by
  unfold opLit at h
  split at h
  · rename_i e hu
    split at h
    · rename_i sz s zero hs hsk hz
      rcases cond_some h with ⟨hsz, hh⟩ | ⟨_, h2⟩
      · clear h
        simp only [Bool.and_eq_true] at hsz
        have e1 := Nat.eq_of_beq_eq_true hsz.1
        have e2 := Nat.le_of_ble_eq_true hsz.2.1
        have e3 := Nat.le_of_ble_eq_true hsz.2.2
        split at hh
        · rename_i cs hcs
          split at hh
          · rename_i l f fl hun
            refine ⟨_, hh, ?_⟩
            intro S' m a w hl hf hr K Q hK
            have hr0 := hr.le hl
            obtain ⟨z0, hz0, hrun⟩ := run_lit (parts := evp a.eval parts) hu hs hz e2 w
            have h1 := RepVs.blank (m := m) (B0 := w0.heap.size) (w := w) z0.toList
            rw [Array.length_toList, hz0] at h1
            obtain ⟨us, hfill, hus⟩ := fillB_ok (vs := z0.toList) (vps := parts.toList.map fun e => (e.1, a.eval e.2)) hcs h1 (by simp) (evps_ok hr0 _)
            have hrun' := hrun us.toArray (by simpa [evp] using hfill)
            obtain ⟨elen, hrows⟩ := unTs_ok hr0 hun hus
            subst elen
            have hul : us.length = l.length * s.length := by
              have := fill_len hfill
              simp at this
              rw [this, ← Array.length_toList, Array.length_toList, hz0, e1]
            have hmax : l.length ≤ maxLen := Nat.le_trans e3 (by decide)
            have hgr : w.grownBy (w.alloc (.cells us.toArray e)) none := World.grownBy_alloc w _ none
            obtain ⟨m', hg, hh', hv'⟩ := Heap.newrow (dl := []) (fl := fl) (row := none) (fr := f) (T := e) (s := s) (l := l) (xs := us) (v' := .slice (some ⟨w.heap.size, 0, none⟩) l.length l.length) hr.heap hf hgr (fun k hk => by cases hk) (fun i hi => by
              obtain ⟨fr, T, s', l', hσ⟩ := unTs_own hun i hi
              exact ⟨_, _, _, _, Le.blk hl hσ (by simp)⟩) (fun i _ h => by cases h) (fun k hk => .inr (by cases hk; exact Nat.le_refl _))
              ⟨hul, .inr ⟨w.heap.size, l.length, us.toArray, rfl, hr.heap.below.size, heap_alloc_new w _, Nat.le_refl _, hmax, by simp [hul], by simp [← hul]⟩⟩
              (RowsIs.move (fun b hb => ⟨hb, Below.heap_alloc w _ b (by
                rcases hb.1 with h2 | ⟨i, hi, hib⟩
                · exact hr.heap.flt b h2
                · obtain ⟨fr, T, s', l', hσ⟩ := unTs_own hun i hi
                  exact (blk_lt hr.heap (i := i) (by rw [Le.blk hl hσ (by simp)]; exact hib)).1)⟩) hrows)
            unfold Oper.wp
            rw [exec_lit ho hrun', Oper.upon_value]
            exact hK m' _ _ hg hh' (.own hv')
          · cases hh
        · cases hh
      · cases h2
    · cases h
  · cases h
end
end Go.Proofs.YtaknikdbnfmlfaaDoor.Ex
/- An executor of translated code on abstract states, twelfth part: append. -/
namespace Go.Proofs.YtaknikdbnfmlfaaDoor.Ex
open Go Go.RowKit
set_option linter.unusedVariables false
set_option linter.unusedSimpArgs false
mutual
theorem SKIs.flat {ok ok' : Nat → Prop} {w : World} : ∀ {k : SK} {x : k.ty} {v : Value}, flatK k = true → SKIs ok w k x v → SKIs ok' w k x v
  | .int _, _, _, _, h => by simpa only [SKIs] using h
  | .bool, _, _, _, h => by simpa only [SKIs] using h
  | .str, _, _, _, h => by simpa only [SKIs] using h
  | .row s, _, _, hf, _ => by simp [flatK] at hf
  | .ptr s, _, _, hf, _ => by simp [flatK] at hf
  | .adr, _, _, _, h => by simpa only [SKIs] using h
  | .fnc _, _, _, _, h => by simpa only [SKIs] using h
theorem TupIs.flat {ok ok' : Nat → Prop} {w : World} : ∀ {s : List SK} {x : Tup s} {cs : List Value}, s.all flatK = true → TupIs ok w s x cs → TupIs ok' w s x cs
  | [], _, _, _, h => by simpa only [TupIs] using h
  | [k], x, cs, hf, h => by
    simp only [TupIs] at h ⊢
    obtain ⟨u, rfl, h⟩ := h
    exact ⟨u, rfl, SKIs.flat (by simpa using hf) h⟩
  | k :: k' :: r, x, cs, hf, h => by
    simp only [TupIs] at h ⊢
    obtain ⟨u, us, rfl, h1, h2⟩ := h
    simp only [List.all_cons, Bool.and_eq_true] at hf
    exact ⟨u, us, rfl, SKIs.flat hf.1 h1, TupIs.flat (by simp [hf.2.1, hf.2.2]) h2⟩
end
mutual
theorem SKIs.one {ok : Nat → Prop} {w : World} : ∀ {k : SK} {x : k.ty} {v : Value}, SKIs ok w k x v → v.oneCell' = true
  | .int _, _, _, h => by simp only [SKIs] at h; subst h; rfl
  | .bool, _, _, h => by simp only [SKIs] at h; subst h; rfl
  | .str, _, _, h => by simp only [SKIs] at h; subst h; rfl
  | .row s, _, _, h => by simp only [SKIs] at h; obtain ⟨A, c, rfl, _⟩ := h; rfl
  | .ptr s, _, _, h => by simp only [SKIs] at h; obtain ⟨b, o, cs, rfl, _⟩ := h; rfl
  | .adr, _, _, h => by simp only [SKIs] at h; subst h; rfl
  | .fnc _, _, _, h => by simp only [SKIs] at h; subst h; rfl
theorem TupIs.one {ok : Nat → Prop} {w : World} : ∀ {s : List SK} {x : Tup s} {cs : List Value}, TupIs ok w s x cs → ∀ u ∈ cs, u.oneCell' = true
  | [], _, _, h => by simp only [TupIs] at h; subst h; intro u hu; cases hu
  | [k], x, cs, h => by
    simp only [TupIs] at h
    obtain ⟨u, rfl, h⟩ := h
    intro v hv
    simp at hv
    subst hv
    exact SKIs.one h
  | k :: k' :: r, x, cs, h => by
    simp only [TupIs] at h
    obtain ⟨u, us, rfl, h1, h2⟩ := h
    intro v hv
    rcases List.mem_cons.1 hv with rfl | hv
    · exact SKIs.one h1
    · exact TupIs.one h2 v hv
end
theorem RowsIs.one {ok : Nat → Prop} {w : World} {s : List SK} {l : List (Tup s)} {xs : List Value} (h : RowsIs ok w s l xs) (hl : xs.length = l.length * s.length) : ∀ u ∈ xs, u.oneCell' = true := fun u hu => by
  obtain ⟨q, hq, rfl⟩ := List.mem_iff_getElem.1 hu
  rw [hl] at hq
  have hs : 0 < s.length := Nat.pos_of_ne_zero (fun e => by rw [e] at hq; omega)
  have hi : q / s.length < l.length := Nat.div_lt_of_lt_mul (by rw [Nat.mul_comm]; exact hq)
  have ht := h (q / s.length) _ (List.getElem?_eq_getElem hi)
  refine TupIs.one ht _ (List.mem_iff_getElem?.2 ⟨q % s.length, ?_⟩)
  rw [List.getElem?_take_of_lt (Nat.mod_lt _ hs), List.getElem?_drop]
  have : q / s.length * s.length + q % s.length = q := by rw [Nat.mul_comm]; exact Nat.div_add_mod q s.length
  rw [this]
  exact List.getElem?_eq_getElem _
theorem RowsIs.app {ok : Nat → Prop} {w : World} {s : List SK} {l l' : List (Tup s)} {xs ys : List Value} (h : RowsIs ok w s l xs) (h' : RowsIs ok w s l' ys) (hl : xs.length = l.length * s.length) : RowsIs ok w s (l ++ l') (xs ++ ys) := fun i x hx => by
  by_cases hi : i < l.length
  · rw [List.getElem?_append_left hi] at hx
    have := h i x hx
    have hm : (i + 1) * s.length ≤ l.length * s.length := Nat.mul_le_mul_right _ hi
    rw [Nat.add_mul, Nat.one_mul] at hm
    rw [List.drop_append_of_le_length (by omega), List.take_append_of_le_length (by rw [List.length_drop]; omega)]
    exact this
  · rw [List.getElem?_append_right (by omega)] at hx
    have := h' _ x hx
    rw [Nat.sub_mul, ← hl] at this
    rw [List.drop_append, List.drop_of_length_le (by rw [hl]; exact Nat.mul_le_mul_right _ (by omega)), List.nil_append]
    exact this
/-- The cells of a row that is read, one behind the other. -/
theorem row_flat {ok : Nat → Prop} {w : World} {s : List SK} {l : List (Tup s)} {A : Option Addr} {c : Nat} (h : SKIs ok w (.row s) l (.slice A l.length c)) : ∀ n, n ≤ l.length → ∃ news : List Value, news.length = n * s.length ∧ RowsIs ok w s (l.take n) news ∧ ∀ b o, A = some ⟨b, o, none⟩ → CellsAt w b o news := by
  simp only [SKIs] at h
  obtain ⟨A', c', he, hc, hr⟩ := h
  cases he
  intro n
  induction n with
  | zero => exact fun _ => ⟨[], by simp, RowsIs.nil, fun b o _ j u hu => by simp at hu⟩
  | succ n ih =>
    intro hn
    obtain ⟨news, h1, h2, h3⟩ := ih (by omega)
    obtain ⟨b, o, cs, rfl, hok, hlen, hcs, ht⟩ := hr n l[n] (List.getElem?_eq_getElem (by omega))
    have hln : (l.take n).length = n := by rw [List.length_take]; omega
    refine ⟨news ++ cs, by rw [List.length_append, h1, hlen, Nat.add_mul, Nat.one_mul], ?_, fun b' o' he j u hu => ?_⟩
    · rw [List.take_succ_eq_append_getElem (by omega)]
      refine h2.app (RowsIs.cons ?_ RowsIs.nil) (by rw [hln]; exact h1)
      rw [List.take_of_length_le (by omega)]
      exact ht
    · cases he
      by_cases hj : j < news.length
      · rw [List.getElem?_append_left hj] at hu
        exact h3 b o rfl j u hu
      · rw [List.getElem?_append_right (by omega)] at hu
        have := hcs _ u hu
        rw [h1] at this hj
        rwa [show o + n * s.length + (j - n * s.length) = o + j by omega] at this
def srcRow (S : AS) (s : List SK) (x : PV) : Option (List (Tup s) × Bool) := match x with
  | .row fr s' l => match asRows s' s l with
    | some l' => some (l', fr)
    | none => none
  | .own j => match S.σ j with
    | .own fr _ s' l => match asRows s' s l with
      | some l' => some (l', fr)
      | none => none
    | _ => none
  | .v (.slice none 0 _) => some ([], true)
  | _ => none
/-- What holds of a row whose elements are taken. -/
theorem srcRow_ok {w0 : Org} {N : Nat} {m : Nm} {S : AS} {a : Act} {w : World} (hr : Rep w0 N m S a w) {s : List SK} {x : PV} {v : Value} {l : List (Tup s)} {f : Bool} (h : srcRow S s x = some (l, f)) (hx : RepV m w0.heap.size w x v) :
    ∃ A c news, v = .slice A l.length c ∧ (A = none → l = []) ∧ (∀ ad, A = some ad → ∀ j u, news[j]? = some u → w.cell? (ad.add j) = some u) ∧ news.length = l.length * s.length ∧ RowsIs (okOf m w0.heap.size f) w s l news := by
  unfold srcRow at h
  split at h
  · rename_i fr s' l'
    split at h
    · rename_i l2 hl
      cases h
      obtain ⟨rfl, rfl⟩ := asRows_some hl
      cases hx with | row hx =>
      have h4 := hx
      simp only [SKIs] at h4
      obtain ⟨A, c, rfl, hc, hr4⟩ := h4
      obtain ⟨news, h1, h2, h3⟩ := row_flat hx l.length (Nat.le_refl _)
      rw [List.take_length] at h2
      refine ⟨A, c, news, rfl, fun hA => ?_, fun ad hA j u hu => ?_, h1, h2⟩
      · cases l with
        | nil => rfl
        | cons y l' => obtain ⟨b, o, cs, he, _⟩ := hr4 0 y rfl; rw [hA] at he; cases he
      · cases l with
        | nil => simp at h1; subst h1; simp at hu
        | cons y l' =>
          obtain ⟨b, o, cs, he, _⟩ := hr4 0 y rfl
          rw [hA] at he
          cases he
          rw [Addr.add_mid]
          exact h3 b o hA j u hu
    · cases h
  · rename_i j
    split at h
    · rename_i fr T s' l' hσ
      split at h
      · rename_i l2 hl
        cases h
        obtain ⟨rfl, rfl⟩ := asRows_some hl
        cases hx with | own hx =>
        have hb := hr.heap.blk j
        rw [hσ] at hb
        obtain ⟨xs, b1, b2, b3⟩ := hb
        rcases b1.2 with ⟨hn, hn0⟩ | ⟨g', cap, cur, hv', hg', hh, _⟩
        · rw [hn] at hx
          cases hx
          have : l = [] := List.eq_nil_of_length_eq_zero hn0
          subst this
          exact ⟨none, 0, [], rfl, fun _ => rfl, (by intro ad hA; cases hA), by simp, RowsIs.nil⟩
        · rw [hv'] at hx
          cases hx
          refine ⟨some ⟨g', 0, none⟩, _, xs, rfl, (by intro hA; cases hA), fun ad hA j u hu => ?_, b1.1, b2⟩
          cases hA
          exact b1.cells (by rw [hv']; rfl) j u hu
      · cases h
    · cases h
  · cases h
    cases hx
    exact ⟨none, _, [], rfl, fun _ => rfl, (by intro ad hA; cases hA), by simp, RowsIs.nil⟩
  · cases h
section
variable {P : Program} {w0 : Org} {w : World} {N : Nat} {S : AS} {o : Oper} {ρ : Type} {r : ρ} {id0 : Nat}
/-- What append to l1 of what x holds does. -/
def appTo (P : Program) (S : AS) (id0 : Nat) (e : TypeId) (dl : List Nat) (fr : Bool) (s : List SK) (l : List (Tup s)) (x : PV) (κ : Eff → Option ρ) : Option ρ := match P.info? e with
  | some inf => match inf.zero with
    | some z => bif Nat.beq inf.size s.length && (Nat.beq z.cells.size s.length && (Nat.blt 0 s.length && Nat.blt 0 inf.bytes)) then match srcRow S s x with
      | some (l2, f2) => bif decide ((l.length + l2.length) * inf.bytes ≤ 140737488355328) then κ ⟨.own id0, outs (dl ++ []) ++ [(id0, .own (fr && (f2 || s.all flatK)) e s (l ++ l2))]⟩ else none
      | none => none else none
    | none => none
  | none => none
def opAppend (P : Program) (S : AS) (id0 : Nat) (ts : Array TypeId) (b x : PV) (κ : Eff → Option ρ) : Option ρ := match ts.toList with
  | [t, t'] => bif Nat.beq t t' then match P.underlying t with
    | some (.slice e) => match b with
      | .own i => match S.σ i with
        | .own fr T s l => bif Nat.beq T e then appTo P S id0 e [i] fr s l x κ else none
        | _ => none
      | .v (.slice none 0 0) => match skOf P 40 e with
        | some s => appTo P S id0 e [] true s [] x κ
        | none => none
      | _ => none
    | _ => none else none
  | _ => none
theorem run_append_nil {t ty e : TypeId} {inf : TypeInfo} {A : Option Addr} {n c c' : Nat} (hu : P.underlying t = some (.slice e)) (hi : P.info? e = some inf) (hc : n ≤ c) : (Builtin.append_ #[t, t] ty #[.slice A n c, .slice none 0 c']).run P w = .ok (.slice A n c) w := by
  cases A with
  | none => simp [Builtin.append_, run_underlying hu, sizeOf, typeInfo, hi, Builtin.lenOf, Builtin.firstCells, hc]
  | some ad => simp [Builtin.append_, run_underlying hu, sizeOf, typeInfo, hi, Builtin.lenOf, Builtin.firstCells, hc, storeCells]
theorem appTo_ok {t e : TypeId} {b x : Operand} {dl : List Nat} {fr : Bool} {s : List SK} {l : List (Tup s)} {κ : Eff → Option ρ} (ho : o.op = .call { callee := .builtin .append, args := #[b, x], argTypes := #[t, t] }) (hu : P.underlying t = some (.slice e))
    (hb : ∀ m a w, Rep w0 N m S a w → ∃ xs, w.ownsRow w0.heap.size e s.length (a.eval b) l.length xs ∧ RowsIs (okOf m w0.heap.size fr) w s l xs ∧ ∀ k, (a.eval b).ownBlock = some k → ∃ i ∈ dl, blkOf m i (S.σ i) k)
    (h : appTo P S id0 e dl fr s l (S.ev x) κ = some r) : Sound P w0 N S id0 o κ r := by
  unfold appTo at h
  split at h
  · rename_i inf hi
    split at h
    · rename_i z hz
      rcases cond_some h with ⟨hsz, hh⟩ | ⟨_, h2⟩
      · clear h
        simp only [Bool.and_eq_true] at hsz
        have e1 := Nat.eq_of_beq_eq_true hsz.1
        have e2 := Nat.eq_of_beq_eq_true hsz.2.1
        have e3 : 0 < s.length := Nat.le_of_ble_eq_true hsz.2.2.1
        have e4 : 0 < inf.bytes := Nat.le_of_ble_eq_true hsz.2.2.2
        split at hh
        · rename_i l2 f2 hsrc
          rcases cond_some hh with ⟨hlim, hk⟩ | ⟨_, h2⟩
          · clear hh
            have hbytes := of_decide_eq_true hlim
            have hmax : l.length + l2.length ≤ maxLen := by
              have h1 : l.length + l2.length ≤ (l.length + l2.length) * inf.bytes := Nat.le_mul_of_pos_right _ e4
              exact Nat.le_trans (Nat.le_trans h1 hbytes) (by decide)
            refine ⟨_, hk, ?_⟩
            intro S' m a w hl hf hr K Q hK
            have hr0 := hr.le hl
            obtain ⟨xs, o1, o2, o3⟩ := hb m a w hr0
            obtain ⟨A, c, news, hv, hA, hcell, hnl, hnr⟩ := srcRow_ok hr0 hsrc (hr0.ev x)
            have hbase : w0.heap.size ≤ w.heap.size := hr.heap.below.size
            have run : ∃ v' w', (Builtin.append_ #[t, t] o.type #[a.eval b, a.eval x]).run P w = .ok v' w' ∧ w'.ownsRow w0.heap.size e s.length v' (l.length + l2.length) (xs ++ news) ∧ w.grownBy w' (a.eval b).ownBlock ∧ (v'.ownBlock = (a.eval b).ownBlock ∨ v'.ownBlock = some w.heap.size) := by
              cases A with
              | none =>
                have hl2 := hA rfl
                subst hl2
                have hn0 : news = [] := by simpa using hnl
                subst hn0
                rw [hv]
                rcases o1.2 with ⟨hn, hn0⟩ | ⟨g, cap, cur, hv', hg', hh, hle, _⟩
                · refine ⟨a.eval b, w, ?_, by simpa using o1, ⟨rfl, rfl, rfl, Nat.le_refl _, fun _ _ _ => rfl⟩, .inl rfl⟩
                  rw [hn]; exact run_append_nil hu hi (Nat.le_refl _)
                · refine ⟨a.eval b, w, ?_, by simpa using o1, ⟨rfl, rfl, rfl, Nat.le_refl _, fun _ _ _ => rfl⟩, .inl rfl⟩
                  rw [hv']; exact run_append_nil hu hi hle
              | some ad =>
                rw [hv]
                obtain ⟨v', w', h1, h2, h3, _, h5⟩ := run_append_own_at (P := P) w w0.heap.size t o.type e inf z s.length inf.bytes hu hi hz e1 rfl e2 e3 (a.eval b) l.length xs o1 ad l2.length c news hnl (hcell ad rfl) (hnr.one hnl) hmax hbytes hbase
                exact ⟨v', w', h1, h2, h3, h5⟩
            obtain ⟨v', w', hrun, hown, hgr, hat⟩ := run
            have hrow : ∀ k, (a.eval b).ownBlock = some k → ∃ i ∈ dl, blkOf m i (S'.σ i) k := fun k hk => by
              obtain ⟨i, hi, hib⟩ := o3 k hk
              refine ⟨i, hi, ?_⟩
              rcases hl.σ i with h1 | h1
              · rw [h1] at hib; cases hib
              · rw [h1]; exact hib
            have hnF : ∀ k, (a.eval b).ownBlock = some k → ¬ m.F k := fun k hk => by
              obtain ⟨i, _, hib⟩ := hrow k hk
              exact (blk_lt hr.heap hib).2.1
            have hstay : ∀ f g : Bool, (g = true → f = true) → Stays (okOf m w0.heap.size f) (okOf ⟨m.v, m.b, frz m []⟩ w0.heap.size g) w w' := fun f g hfg k hk => ⟨⟨.inl hk.1, fun hg => hk.2 (hfg hg)⟩, hgr.block k (hr.heap.flt k hk.1) (fun e => hnF k e.symm hk.1)⟩
            obtain ⟨m', hg, hh', hv'⟩ := Heap.newrow (dl := dl) (fl := []) (row := (a.eval b).ownBlock) (fr := fr && (f2 || s.all flatK)) (T := e) (s := s) (l := l ++ l2) (xs := xs ++ news) (v' := v') hr.heap hf hgr hrow (fun i hi => by cases hi) (fun i hi => by cases hi)
              (fun k hk => by
                rcases hat with h1 | h1
                · exact .inl (h1 ▸ hk)
                · rw [h1] at hk; cases hk; exact .inr (Nat.le_refl _))
              (by rw [List.length_append]; exact hown)
              (by
                refine RowsIs.app (RowsIs.move (hstay _ _ (fun h => by simp at h; exact h.1)) o2) ?_ o1.1
                by_cases hfl : s.all flatK = true
                · intro i y hy
                  have := hnr i y hy
                  exact TupIs.flat hfl (TupIs.move (hstay f2 false (fun h => by cases h)) this)
                · refine RowsIs.move (hstay f2 _ (fun h => ?_)) hnr
                  simp only [Bool.and_eq_true, Bool.or_eq_true] at h
                  exact h.2.resolve_right hfl)
            unfold Oper.wp execOp
            simp only [ho, resolve, invoke, builtin, Sem.run_bind, Sem.run_pure, Result.andThen_ok, List.map_toArray, List.map_cons, List.map_nil, hrun]
            have hsl : ∃ A n c, v' = .slice A n c := by
              rcases hown.2 with ⟨h1, _⟩ | ⟨g, cap, cur, h1, _⟩ <;> exact ⟨_, _, _, h1⟩
            obtain ⟨A', n', c', rfl⟩ := hsl
            exact hK m' _ _ hg hh' (.own hv')
          · cases h2
        · cases hh
      · cases h2
    · cases h
  · cases h
theorem append_ok {ts : Array TypeId} {b x : Operand} {κ : Eff → Option ρ} (ho : o.op = .call { callee := .builtin .append, args := #[b, x], argTypes := ts }) (h : opAppend P S id0 ts (S.ev b) (S.ev x) κ = some r) : Sound P w0 N S id0 o κ r := by
  unfold opAppend at h
  split at h
  · rename_i t t' hts
    have hts' : ts = #[t, t'] := by
      apply Array.ext'
      exact hts
    subst hts'
    rcases cond_some h with ⟨htt, hh⟩ | ⟨_, h2⟩
    · clear h
      have := Nat.eq_of_beq_eq_true htt
      subst this
      split at hh
      · rename_i e hu
        split at hh
        · rename_i i hbv
          split at hh
          · rename_i fr T s l hσ
            rcases cond_some hh with ⟨hT, hk⟩ | ⟨_, h2⟩
            · have := Nat.eq_of_beq_eq_true hT
              subst this
              refine appTo_ok ho hu (fun m a w hr => ?_) hk
              have h3 := hr.ev b
              rw [hbv] at h3
              generalize hz : a.eval b = z at h3
              cases h3 with | own h3 =>
              have hbk := hr.heap.blk i
              rw [hσ] at hbk
              obtain ⟨xs, b1, b2, b3⟩ := hbk
              rw [← h3]
              exact ⟨xs, b1, b2, fun k hk => ⟨i, by simp, by rw [hσ]; exact hk⟩⟩
            · cases h2
          · cases hh
        · rename_i hbv
          split at hh
          · rename_i s hs
            refine appTo_ok ho hu (fun m a w hr => ?_) hh
            rw [ev_v hr hbv]
            exact ⟨[], World.ownsRow_nil _ _ _ _, RowsIs.nil, fun k hk => by cases hk⟩
          · cases hh
        · cases hh
      · cases hh
    · cases h2
  · cases h
end
end Go.Proofs.YtaknikdbnfmlfaaDoor.Ex
