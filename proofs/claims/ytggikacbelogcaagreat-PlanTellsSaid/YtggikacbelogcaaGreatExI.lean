/- An executor of translated code on abstract states, ninth part: what stores do. -/
import Derived.Test.YtggikacbelogcaaGreatExH
namespace Go.Proofs.YtggikacbelogcaaGreat.Ex
open Go Go.RowKit
set_option linter.unusedVariables false
set_option linter.unusedSimpArgs false
theorem Rep.one_blk {w0 : Org} {N : Nat} {m : Nm} {S : AS} {a : Act} {w : World} (hr : Rep w0 N m S a w) (i : Nat) : BlkIs m w0.heap.size w i (S.σ i) := hr.heap.blk i
/-- Cells set in a list. -/
def setL {α : Type} (xs : List α) (p : Nat) (vs : List α) : List α := xs.take p ++ (vs ++ xs.drop (p + vs.length))
theorem setL_get {α : Type} (xs vs : List α) (p q : Nat) (h : p + vs.length ≤ xs.length) : (setL xs p vs)[q]? = if p ≤ q ∧ q < p + vs.length then vs[q - p]? else xs[q]? := by
  unfold setL
  have hl : (xs.take p).length = p := by rw [List.length_take]; omega
  by_cases h1 : q < p
  · rw [List.getElem?_append_left (by omega), List.getElem?_take_of_lt h1, if_neg (by omega)]
  · rw [List.getElem?_append_right (by omega), hl]
    by_cases h2 : q < p + vs.length
    · rw [List.getElem?_append_left (by omega), if_pos ⟨by omega, h2⟩]
    · rw [List.getElem?_append_right (by omega), List.getElem?_drop, if_neg (by omega)]
      congr 1
      omega
theorem setL_len {α : Type} (xs vs : List α) (p : Nat) (h : p + vs.length ≤ xs.length) : (setL xs p vs).length = xs.length := by
  unfold setL
  rw [List.length_append, List.length_append, List.length_take, List.length_drop]
  omega
theorem seg_other {α : Type} {xs vs : List α} {i j n off : Nat} (hoff : off + vs.length ≤ n) (h : j * n + off + vs.length ≤ xs.length) (hij : i ≠ j) : ((setL xs (j * n + off) vs).drop (i * n)).take n = (xs.drop (i * n)).take n := by
  apply List.ext_getElem?
  intro q
  by_cases hq : q < n
  · rw [List.getElem?_take_of_lt hq, List.getElem?_take_of_lt hq, List.getElem?_drop, List.getElem?_drop, setL_get _ _ _ _ h, if_neg ?_]
    intro ⟨h1, h2⟩
    rcases Nat.lt_or_gt_of_ne hij with h3 | h3
    · have : (i + 1) * n ≤ j * n := Nat.mul_le_mul_right n h3
      rw [Nat.add_mul, Nat.one_mul] at this
      omega
    · have : (j + 1) * n ≤ i * n := Nat.mul_le_mul_right n h3
      rw [Nat.add_mul, Nat.one_mul] at this
      omega
  · rw [List.getElem?_eq_none (by rw [List.length_take]; omega), List.getElem?_eq_none (by rw [List.length_take]; omega)]
theorem seg_same {α : Type} {xs vs : List α} {j n off : Nat} (hoff : off + vs.length ≤ n) (h : j * n + n ≤ xs.length) : ((setL xs (j * n + off) vs).drop (j * n)).take n = setL ((xs.drop (j * n)).take n) off vs := by
  have hlen : ((xs.drop (j * n)).take n).length = n := by rw [List.length_take, List.length_drop]; omega
  apply List.ext_getElem?
  intro q
  rw [setL_get _ _ _ _ (by omega)]
  by_cases hq : q < n
  · rw [List.getElem?_take_of_lt hq, List.getElem?_drop, setL_get _ _ _ _ (by omega)]
    by_cases h1 : off ≤ q ∧ q < off + vs.length
    · rw [if_pos h1, if_pos (by omega)]
      congr 1
      omega
    · rw [if_neg h1, if_neg (by omega), List.getElem?_take_of_lt hq, List.getElem?_drop]
  · rw [List.getElem?_eq_none (by rw [List.length_take]; omega), if_neg (by omega), List.getElem?_eq_none (by rw [List.length_take]; omega)]
theorem RepVs.setL {m : Nm} {B0 : Nat} {w : World} {ps qs : List PV} {vs us : List Value} (h : RepVs m B0 w ps vs) (h' : RepVs m B0 w qs us) (off : Nat) : RepVs m B0 w (setL ps off qs) (setL vs off us) := by
  unfold Ex.setL
  rw [h'.len]
  exact (h.take _).append (h'.append (h.drop _))
/-- Several blocks told anew. -/
def outs (l : List Nat) : List (Nat × ABlk) := l.map fun i => (i, .no)
theorem updσ_app (σ : Nat → ABlk) : ∀ (l l' : List (Nat × ABlk)), updσ σ (l ++ l') = updσ (updσ σ l) l'
  | [], _ => rfl
  | e :: l, l' => updσ_app _ l l'
theorem updσ_outs (σ : Nat → ABlk) : ∀ (l : List Nat) (j : Nat), updσ σ (outs l) j = if j ∈ l then .no else σ j
  | [], j => by simp [outs, updσ]
  | i :: l, j => by
    show updσ (fun k => bif Nat.beq k i then .no else σ k) (outs l) j = _
    rw [updσ_outs _ l j]
    by_cases h : j ∈ l
    · simp [h]
    · by_cases hji : j = i
      · subst hji; simp [h]
      · have hb : Nat.beq j i = false := by
          cases hq : Nat.beq j i with
          | true => exact absurd (Nat.eq_of_beq_eq_true hq) hji
          | false => rfl
        simp [h, hji, hb]
theorem updσ_last (σ : Nat → ABlk) (l : List Nat) (i : Nat) (b : ABlk) (j : Nat) : updσ σ (outs l ++ [(i, b)]) j = if j = i then b else if j ∈ l then .no else σ j := by
  rw [updσ_app, updσ_one, updσ_outs]
section
variable {P : Program} {w0 : Org} {w : World} {N : Nat} {S : AS} {o : Oper} {ρ : Type} {r : ρ} {id0 : Nat}
def okStore (id0 : Nat) (yc : List PV) (n off tot : Nat) : Bool := Nat.beq yc.length n && (Nat.ble (off + n) tot && (yc.all PV.one && idsL (old id0) yc))
def opStore (P : Program) (S : AS) (id0 : Nat) (t : TypeId) (x y : PV) (κ : Eff → Option ρ) : Option ρ := match x, y.cells, sizeB P t with
  | .ptr i off, some yc, some n => match S.σ i with
    | .box T cs => bif okStore id0 yc n off cs.length then κ ⟨.v undef, [(i, .box T (setL cs off yc))]⟩ else none
    | _ => none
  | .eptr i j sz off, some yc, some n => match S.σ i with
    | .own fr T s l => bif okStore id0 yc n off s.length && Nat.beq sz s.length then match unT S s (setL (cellsT fr s (l.getD j.toNat (zT s))) off yc) with
      | some (y', f, []) => κ ⟨.v undef, [(i, .own (fr && f) T s (l.set j.toNat y'))]⟩
      | _ => none else none
    | _ => none
  | _, _, _ => none
theorem okStore_ok {yc : List PV} {n off tot : Nat} (h : okStore id0 yc n off tot = true) : yc.length = n ∧ off + n ≤ tot ∧ yc.all PV.one = true ∧ idsL (old id0) yc = true := by
  simp only [okStore, Bool.and_eq_true] at h
  exact ⟨Nat.eq_of_beq_eq_true h.1, Nat.le_of_ble_eq_true h.2.1, h.2.2.1, h.2.2.2⟩
theorem run_store_op {x y : Operand} {t : TypeId} {ev : Operand → Value} {w1 : World} (ho : o.op = .store t x y) (h : (Instr.storeAt t (ev x) (ev y)).run P w = .ok () w1) : (execOp ev o).run P w = .ok .skip w1 := by
  unfold execOp
  simp only [ho]
  simp [Sem.run_bind, h]
theorem idsL_app {p : Nat → Bool} : ∀ {l l' : List PV}, idsL p l = true → idsL p l' = true → idsL p (l ++ l') = true
  | [], _, _, h => h
  | x :: l, _, h, h' => by simp only [idsL, Bool.and_eq_true, List.cons_append] at h ⊢; exact ⟨h.1, idsL_app h.2 h'⟩
theorem Le.blk {S S' : AS} {i : Nat} {b : ABlk} (hl : Le S S') (h : S.σ i = b) (hb : b ≠ .no) : S'.σ i = b := by
  rcases hl.σ i with h1 | h1
  · rw [h] at h1; exact absurd h1 hb
  · rw [h1, h]
theorem store_ok {x y : Operand} {t : TypeId} {κ : Eff → Option ρ} (ho : o.op = .store t x y) (h : opStore P S id0 t (S.ev x) (S.ev y) κ = some r) : Sound P w0 N S id0 o κ r := by
  unfold opStore at h
  split at h
  · rename_i i off yc n hx hyc hsz
    split at h
    · rename_i T cs hσ
      rcases cond_some h with ⟨hok, hh⟩ | ⟨_, h2⟩
      · clear h
        obtain ⟨e1, e2, e3, e4⟩ := okStore_ok hok
        refine ⟨_, hh, ?_⟩
        intro S' m a w hl hf hr K Q hK
        have hr0 := hr.le hl
        have hσ' : S'.σ i = .box T cs := Le.blk hl hσ (by simp)
        have h1 := hr0.ev x
        rw [hx] at h1
        generalize hz : a.eval x = z at h1
        cases h1
        have hy := PV.cells_ok (hr0.ev y) hyc
        have hb := hr.heap.blk i
        rw [hσ'] at hb
        obtain ⟨b1, b2, vs, hvs, hh0⟩ := hb
        have hlen := hvs.len
        have hylen := hy.len
        simp only [Array.length_toList] at hylen
        have hrun := run_store (P := P) (t := t) (o := off) (v := a.eval y) hh0 (by rw [hsz, ← hylen, e1]) (by simp; omega) (all_one hy e3)
        have hrun' := run_store_op (ev := a.eval) (w := w) ho (by rw [hz]; exact hrun)
        unfold Oper.wp
        rw [hrun', Oper.upon_skip]
        have hs := heap_setCells (a.eval y).cells.toList off w _ hh0
        have hset : setFrom vs.toArray off (a.eval y).cells.toList = (setL vs off (a.eval y).cells.toList).toArray := by
          apply Array.ext'
          rw [setFrom_toList _ _ _ (by simp; omega)]
          rfl
        rw [hset] at hs
        have hg : Grows (old id0) m m w (w.setCells (m.b i) off (a.eval y).cells.toList) := ⟨fun _ _ => rfl, fun _ _ => rfl, fun k hk => ⟨hk, heap_setCells_other (fun (e : k = m.b i) => b2 (by rw [← e]; exact hk)) _ _ _⟩⟩
        have hids : idsL (old id0) (setL cs off yc) = true := by
          have h3 := hf.σ i
          rw [hσ'] at h3
          simp only [ABlk.ids] at h3
          have htd : ∀ (l : List PV) (q : Nat), idsL (old id0) l = true → idsL (old id0) (l.take q) = true ∧ idsL (old id0) (l.drop q) = true := by
            intro l
            induction l with
            | nil => intro q _; simp [idsL]
            | cons p l ih =>
              intro q hq
              simp only [idsL, Bool.and_eq_true] at hq
              cases q with
              | zero => simp [idsL, hq.1, hq.2]
              | succ q => simp [idsL, hq.1, (ih q hq.2).1, (ih q hq.2).2]
          unfold setL
          exact idsL_app (htd cs off h3).1 (idsL_app e4 (htd cs _ h3).2)
        refine hK m _ _ hg ?_ .v
        refine Heap.step (fun q => q = i) hr.heap hg hf.σ (fun q hq => ⟨by rw [updσ_one, if_neg hq], hf.p q⟩) (fun q k hq hk => ⟨heap_setCells_other (fun e => hr.heap.apart q i k hq hk (by rw [hσ', e]; rfl)) _ _ _, (blk_lt hr.heap hk).2.1⟩) (fun q hq => ?_) (fun q j k hqj hq h3 h4 => ?_) (fun k hk => by rw [size_setCells]; exact hr.heap.flt k hk) (hr.heap.below.trans (below_setCells b1 _ _ _))
        · subst hq
          rw [updσ_one, if_pos rfl]
          exact ⟨b1, b2, _, (RepVs.move hg hvs (by have h3 := hf.σ q; rw [hσ'] at h3; exact h3)).setL (RepVs.move hg hy e4) off, hs⟩
        · subst hq
          rw [updσ_one, if_pos rfl] at h3
          rw [updσ_one, if_neg (Ne.symm hqj)] at h4
          exact hr.heap.apart q j k hqj (by rw [hσ']; exact h3) h4
      · cases h2
    · cases h
  · rename_i i j sz off yc n hx hyc hsz
    split at h
    · rename_i fr T s l hσ
      rcases cond_some h with ⟨hok, hh⟩ | ⟨_, h2⟩
      · clear h
        rw [Bool.and_eq_true] at hok
        obtain ⟨e1, e2, e3, e4⟩ := okStore_ok hok.1
        have e5 := Nat.eq_of_beq_eq_true hok.2
        split at hh
        · rename_i y' f hun
          refine ⟨_, hh, ?_⟩
          intro S' m a w hl hf hr K Q hK
          have hr0 := hr.le hl
          have hσ' : S'.σ i = .own fr T s l := Le.blk hl hσ (by simp)
          have h1 := hr0.ev x
          rw [hx, e5] at h1
          generalize hz : a.eval x = z at h1
          cases h1 with | eptr hv hj0 hj1 =>
          rename_i g nn c
          have hy := PV.cells_ok (hr0.ev y) hyc
          have hb := hr.heap.blk i
          rw [hσ'] at hb
          obtain ⟨xs, b1, b2, b3⟩ := hb
          have hblk : (m.v i).ownBlock = some g := by rw [hv]; rfl
          obtain ⟨hnn, hcells, htup⟩ := own_cells (j := j.toNat) b1 b2 hv (by omega)
          have hjl : j.toNat < l.length := by omega
          have hylen := hy.len
          simp only [Array.length_toList] at hylen
          rcases b1.2 with ⟨hn, _⟩ | ⟨g', cap, cur, hv', hg', hh0, hc1, hc2, hc3, hc4⟩
          · rw [hv] at hn; cases hn
          have hgg : g' = g := by rw [hv] at hv'; cases hv'; rfl
          subst hgg
          have hmul : j.toNat * s.length + s.length ≤ l.length * s.length := by
            have : (j.toNat + 1) * s.length ≤ l.length * s.length := Nat.mul_le_mul_right _ hjl
            rwa [Nat.add_mul, Nat.one_mul] at this
          have hmul2 : l.length * s.length ≤ cap * s.length := Nat.mul_le_mul_right _ hc1
          have hxl : xs.length = l.length * s.length := b1.1
          have hcurl : cur.toList.length = cap * s.length := by simpa using hc3
          have hb1 : j.toNat * s.length + off + (a.eval y).cells.toList.length ≤ cur.toList.length := by rw [hcurl]; have hq := Array.length_toList (xs := (a.eval y).cells); omega
          have hb2 : j.toNat * s.length + off + (a.eval y).cells.toList.length ≤ xs.length := by rw [hxl]; have hq := Array.length_toList (xs := (a.eval y).cells); omega
          have hb3 : off + (a.eval y).cells.toList.length ≤ s.length := by have hq := Array.length_toList (xs := (a.eval y).cells); omega
          have hrun := run_store (P := P) (t := t) (o := j.toNat * s.length + off) (v := a.eval y) hh0 (by rw [hsz, ← hylen, e1]) (by have hq := Array.length_toList (xs := (a.eval y).cells); have hq' := Array.length_toList (xs := cur); omega) (all_one hy e3)
          have hrun' := run_store_op (ev := a.eval) (w := w) ho (by rw [hz]; exact hrun)
          unfold Oper.wp
          rw [hrun', Oper.upon_skip]
          have hs := heap_setCells (a.eval y).cells.toList (j.toNat * s.length + off) w _ hh0
          have hnF : ¬ m.F g' := b3 g' hblk
          have hg : Grows (old id0) m m w (w.setCells g' (j.toNat * s.length + off) (a.eval y).cells.toList) := ⟨fun _ _ => rfl, fun _ _ => rfl, fun k hk => ⟨hk, heap_setCells_other (fun (e : k = g') => hnF (by rw [← e]; exact hk)) _ _ _⟩⟩
          refine hK m _ _ hg ?_ .v
          refine Heap.step (fun q => q = i) hr.heap hg hf.σ (fun q hq => ⟨by rw [updσ_one, if_neg hq], hf.p q⟩) (fun q k hq hk => ⟨heap_setCells_other (fun e => hr.heap.apart q i k hq hk (by rw [hσ', e]; exact hblk)) _ _ _, (blk_lt hr.heap hk).2.1⟩) (fun q hq => ?_) (fun q j' k hqj hq h3 h4 => ?_) (fun k hk => by rw [size_setCells]; exact hr.heap.flt k hk) (hr.heap.below.trans (below_setCells hg' _ _ _))
          · subst hq
            rw [updσ_one, if_pos rfl]
            have hsetlen : (setL xs (j.toNat * s.length + off) (a.eval y).cells.toList).length = xs.length := setL_len _ _ _ hb2
            refine ⟨setL xs (j.toNat * s.length + off) (a.eval y).cells.toList, ⟨by rw [hsetlen, List.length_set]; exact hxl, .inr ⟨g', cap, _, by rw [List.length_set]; exact hv', hg', hs, by rw [List.length_set]; exact hc1, hc2, ?_, ?_⟩⟩, ?_, fun k hk => by rw [hblk] at hk; cases hk; exact hnF⟩
            · rw [← Array.length_toList, setFrom_toList _ _ _ hb1, ← hcurl]
              exact setL_len cur.toList (a.eval y).cells.toList _ hb1
            · rw [setFrom_toList _ _ _ hb1, List.length_set]
              apply List.ext_getElem?
              intro q
              show (((setL cur.toList (j.toNat * s.length + off) (a.eval y).cells.toList)).take (l.length * s.length))[q]? = _
              rw [setL_get _ _ _ _ hb2]
              by_cases hq : q < l.length * s.length
              · rw [List.getElem?_take_of_lt hq, setL_get _ _ _ _ hb1]
                split
                · rfl
                · rw [← hc4, List.getElem?_take_of_lt hq]
              · rw [List.getElem?_eq_none (by rw [List.length_take]; omega), if_neg (by rw [hxl] at hb2; omega), List.getElem?_eq_none (by omega)]
            · intro q x' hq
              by_cases hqj : q = j.toNat
              · subst hqj
                rw [List.getElem?_set_self hjl] at hq
                cases hq
                rw [seg_same hb3 (by omega)]
                have h5 := unT_ok hr0 hun ((cellsT_ok htup).setL hy off)
                refine TupIs.move (fun b hb => ?_) h5
                have hFb : m.F b := hb.1.elim id (fun ⟨i, hi, _⟩ => by cases hi)
                refine ⟨⟨hFb, fun hff => ?_⟩, heap_setCells_other (fun (e : b = g') => hnF (by rw [← e]; exact hFb)) _ _ _⟩
                simp only [Bool.and_eq_true] at hff
                exact hb.2 hff.2
              · rw [List.getElem?_set_ne (Ne.symm hqj)] at hq
                rw [seg_other hb3 hb2 hqj]
                refine TupIs.move (fun b hb => ⟨⟨hb.1, fun hff => ?_⟩, heap_setCells_other (fun (e : b = g') => hnF (by rw [← e]; exact hb.1)) _ _ _⟩) (b2 q x' hq)
                simp only [Bool.and_eq_true] at hff
                exact hb.2 hff.1
          · subst hq
            rw [updσ_one, if_pos rfl] at h3
            rw [updσ_one, if_neg (Ne.symm hqj)] at h4
            exact hr.heap.apart q j' k hqj (by rw [hσ']; exact h3) h4
        · cases hh
      · cases h2
    · cases h
  · cases h
end
end Go.Proofs.YtggikacbelogcaaGreat.Ex
