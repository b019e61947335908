/- An executor of translated code on abstract states: cuts of a row of the call's own; its end cleared. -/
import Derived.Test.YtaknikdbnfmlfaaDoorExN
namespace Go.Proofs.YtaknikdbnfmlfaaDoor.Ex
open Go Go.RowKit
set_option linter.unusedVariables false
set_option linter.unusedSimpArgs false
section
variable {P : Program} {w0 : Org} {w : World} {N : Nat} {S : AS} {o : Oper} {ρ : Type} {r : ρ} {id0 : Nat}
def opCutO (P : Program) (S : AS) (id0 : Nat) (t : TypeId) (i : Nat) (lo hi : Option PV) (κ : Eff → Option ρ) : Option ρ := match P.underlying t, S.σ i, bound lo, bound hi with
  | some (.slice e), .own fr T s l, some lo, some hi => match sizeB P e with
    | some sz => bif Nat.beq sz s.length then match lo, hi with
      | some a, none => bif decide (0 ≤ a) then bif decide (a ≤ (l.length : Int)) then κ ⟨.ocut i a s.length, []⟩ else none else none
      | none, some h => bif decide (0 ≤ h) then bif decide (h ≤ (l.length : Int)) then κ ⟨.own id0, [(i, .no), (id0, .own fr T s (l.take h.toNat))]⟩ else none else none
      | _, _ => none else none
    | none => none
  | _, _, _, _ => none
theorem own_slice {B0 : Nat} {T : TypeId} {n sz : Nat} {v : Value} {xs : List Value} (h : w.ownsRow B0 T sz v n xs) : ∃ A c, v = .slice A n c ∧ n ≤ c := by
  rcases h.2 with ⟨rfl, h2⟩ | ⟨g, cap, cur, rfl, _, _, hle, _⟩
  · subst h2; exact ⟨none, 0, rfl, Nat.le_refl _⟩
  · exact ⟨_, cap, rfl, hle⟩
theorem RowsIs.take {ok : Nat → Prop} {s : List SK} {l : List (Tup s)} {xs : List Value} (h : RowsIs ok w s l xs) (k : Nat) : RowsIs ok w s (l.take k) (xs.take (k * s.length)) := fun i x hx => by
  have hi : i < k := by
    have := (List.getElem?_eq_some_iff.1 hx).1
    rw [List.length_take] at this; omega
  rw [List.getElem?_take_of_lt hi] at hx
  have := h i x hx
  have e : ((xs.take (k * s.length)).drop (i * s.length)).take s.length = (xs.drop (i * s.length)).take s.length := by
    have h2 : (i + 1) * s.length ≤ k * s.length := Nat.mul_le_mul_right _ hi
    rw [Nat.add_mul, Nat.one_mul] at h2
    rw [List.drop_take, List.take_take, Nat.min_eq_left (by omega)]
  rw [e]; exact this
theorem own_take {B0 : Nat} {T : TypeId} {s : List SK} {l : List (Tup s)} {A : Option Addr} {c : Nat} {xs : List Value} {k : Nat} (hk : k ≤ l.length) (h : w.ownsRow B0 T s.length (.slice A l.length c) l.length xs) : w.ownsRow B0 T s.length (.slice A k c) (l.take k).length (xs.take (k * s.length)) := by
  have hlk : (l.take k).length = k := by rw [List.length_take]; omega
  have hmul : k * s.length ≤ l.length * s.length := Nat.mul_le_mul_right _ hk
  refine ⟨by rw [List.length_take, hlk, h.1]; omega, ?_⟩
  rcases h.2 with ⟨hv, h2⟩ | ⟨g, cap, cur, hv, hb, hg, hle, hm, hsz, ht⟩
  · rw [Value.slice.injEq] at hv
    obtain ⟨rfl, h4, rfl⟩ := hv
    have hk0 : k = 0 := by omega
    subst hk0
    exact .inl ⟨rfl, hlk⟩
  · rw [Value.slice.injEq] at hv
    obtain ⟨rfl, _, rfl⟩ := hv
    exact .inr ⟨g, c, cur, by rw [hlk], hb, hg, by rw [hlk]; omega, hm, hsz, by rw [hlk, ← ht, List.take_take, Nat.min_eq_left hmul]⟩
theorem cutO_ok {x : Operand} {lo hi : Option Operand} {t : TypeId} {i : Nat} {κ : Eff → Option ρ} (ho : o.op = .slice t x lo hi none) (hx : S.ev x = .own i) (h : opCutO P S id0 t i (lo.map S.ev) (hi.map S.ev) κ = some r) : Sound P w0 N S id0 o κ r := by
  unfold opCutO at h
  split at h
  · rename_i e fr T s l lo' hi' hu hσ hlo hhi
    split at h
    · rename_i sz hs
      rcases cond_some h with ⟨hsz, h⟩ | ⟨_, h2⟩
      · have e2 := Nat.eq_of_beq_eq_true hsz
        have hel : P.elem t = e := by simp [Program.elem, hu]
        have hu' : P.underlying t = some (.slice (P.elem t)) := by rw [hel]; exact hu
        have hsa : ∀ v lo hi w, (Instr.sliceAt t v lo hi none).run P w = (Instr.slice t v lo hi none).run P w := fun v lo hi w => by
          simp only [Instr.sliceAt, Sem.run_bind, run_underlying hu, Result.andThen_ok]
        have hrun : ∀ a : Act, ∀ v w, (Instr.slice t (a.eval x) (lo.map a.eval) (hi.map a.eval) none).run P w = .ok v w → (execOp a.eval o).run P w = .ok (.value v) w := fun a v w hv =>
          run_of (s := Instr.sliceAt t (a.eval x) (lo.map a.eval) (hi.map a.eval) none) (by unfold execOp; simp only [ho, Option.map_none]) (by rw [hsa]; exact hv)
        rcases lo' with _ | al <;> rcases hi' with _ | hq
        · cases h
        · rcases cond_some h with ⟨h0, h⟩ | ⟨_, h2⟩
          · rcases cond_some h with ⟨h1, hh⟩ | ⟨_, h2⟩
            · have e0 := of_decide_eq_true h0
              have e1 := of_decide_eq_true h1
              refine ⟨_, hh, ?_⟩
              intro S' m a w hl hf hr K Q hK
              have hr0 := hr.le hl
              have hσ' : S'.σ i = .own fr T s l := Le.blk hl hσ (by simp)
              have hxv := hr0.ev x
              rw [hx] at hxv
              generalize hz : a.eval x = z at hxv
              cases hxv with | own hv =>
              have hb := hr.heap.blk i
              rw [hσ'] at hb
              obtain ⟨xs, b1, b2, b3⟩ := hb
              obtain ⟨A, c, hA, hnc⟩ := own_slice b1
              have hz := hz.trans (hv.symm.trans hA)
              have hv := hA
              obtain ⟨k1, d1⟩ := bound_ok hr0 hlo
              obtain ⟨k2, d2⟩ := bound_ok hr0 hhi
              have hval : (execOp a.eval o).run P w = .ok (.value (.slice A hq.toNat c)) w := by
                refine hrun a _ w ?_
                rw [hz, d1, d2]
                simp only [Option.map_none, Option.map_some]
                rw [run_slice_h w t A l.length c hu' k2 hq e0 (by omega), hel]
                simp only [sizeB_ok hs, Result.andThen_ok, sliced]
                have ha : (A.map fun x => x.add (0 * sz)) = A := by cases A <;> simp [Addr.add]
                simp [ha]
                intro _
                cases A <;> simp [Addr.add]
              have hblk : ∀ k, (m.v i).ownBlock = some k → blkOf m i (S'.σ i) k := fun k hk => by rw [hσ']; exact hk
              have hown := own_take (k := hq.toNat) (by omega) (hv ▸ b1)
              have hob : ∀ k, (Value.slice A hq.toNat c).ownBlock = some k → (m.v i).ownBlock = some k := fun k hk => by rw [hv]; cases A <;> exact hk
              let m' : Nm := ⟨setAt m.v id0 (.slice A hq.toNat c), m.b, m.F⟩
              have hg : Grows (old id0) m m' w w := ⟨fun j hj => setAt_ne (old_ne (k := 0) (by decide) hj), fun _ _ => rfl, fun k hk => ⟨hk, rfl⟩⟩
              have hvv : m'.v id0 = .slice A hq.toNat c := setAt_self _ _ _
              unfold Oper.wp
              rw [hval, Oper.upon_value]
              have hu2 : ∀ j, updσ S'.σ [(i, .no), (id0, .own fr T s (l.take hq.toNat))] j = if j = id0 then .own fr T s (l.take hq.toNat) else if j = i then .no else S'.σ j := fun j => by
                show updσ (fun k => bif Nat.beq k i then .no else S'.σ k) [(id0, .own fr T s (l.take hq.toNat))] j = _
                rw [updσ_one]
                by_cases h1 : j = id0
                · simp [h1]
                · by_cases h2 : j = i
                  · subst h2; simp [h1]
                  · have hb : Nat.beq j i = false := by
                      cases hq : Nat.beq j i with
                      | true => exact absurd (Nat.eq_of_beq_eq_true hq) h2
                      | false => rfl
                    simp [h1, h2, hb]
              refine hK m' w _ hg ?_ (.own hvv)
              refine Heap.step (fun j => j = i ∨ j = id0) hr.heap hg hf.σ (fun j hj => ⟨by rw [hu2, if_neg (fun e => hj (.inr e)), if_neg (fun e => hj (.inl e))], hf.p j⟩) (fun j k hj hk => ⟨rfl, (blk_lt hr.heap hk).2.1⟩) (fun j hj => ?_) (fun j q k hjq hj h1 h2 => ?_) hr.heap.flt hr.heap.below
              · rw [hu2]
                by_cases h1 : j = id0
                · rw [if_pos h1]
                  subst h1
                  refine ⟨_, by rw [hvv]; exact hown, (RowsIs.take b2 hq.toNat), fun k hk => by rw [hvv] at hk; exact b3 k (hob k hk)⟩
                · rw [if_neg h1, if_pos (hj.resolve_right h1)]
                  trivial
              · rw [hu2] at h1 h2
                by_cases hj0 : j = id0
                · rw [if_pos hj0] at h1
                  have h1' : (m'.v j).ownBlock = some k := h1
                  rw [hj0, hvv] at h1'
                  rw [if_neg (fun e => hjq (hj0.trans e.symm))] at h2
                  by_cases hqi : q = i
                  · rw [if_pos hqi] at h2; cases h2
                  · rw [if_neg hqi, blkOf.same hg (hf.σ q) (hf.p q)] at h2
                    exact hr.heap.apart q i k hqi h2 (hblk k (hob k h1'))
                · rw [if_neg hj0, if_pos (hj.resolve_right hj0)] at h1
                  cases h1
            · cases h2
          · cases h2
        · rcases cond_some h with ⟨h0, h⟩ | ⟨_, h2⟩
          · rcases cond_some h with ⟨h1, hh⟩ | ⟨_, h2⟩
            · have e0 := of_decide_eq_true h0
              have e1 := of_decide_eq_true h1
              have hS : SoundV P w0 N S o (fun p => κ ⟨p, []⟩) r := by
                refine ⟨_, hh, fun m a w hr => ?_⟩
                have hxv := hr.ev x
                rw [hx] at hxv
                generalize hz : a.eval x = z at hxv
                cases hxv with | own hv =>
                have hb := hr.heap.blk i
                rw [hσ] at hb
                obtain ⟨xs, b1, b2, b3⟩ := hb
                obtain ⟨A, c, hA, hnc⟩ := own_slice b1
                have hz := hz.trans (hv.symm.trans hA)
                have hv := hA
                obtain ⟨k1, d1⟩ := bound_ok hr hlo
                obtain ⟨k2, d2⟩ := bound_ok hr hhi
                refine ⟨_, hrun a _ w ?_, .ocut hv e0 e1⟩
                rw [hz, d1, d2]
                simp only [Option.map_none, Option.map_some]
                rw [run_slice_l w t A l.length c hu' k1 al e0 (by omega), hel]
                simp only [sizeB_ok hs, Result.andThen_ok, sliced, ← e2]
              exact hS.sound
            · cases h2
          · cases h2
        · cases h
      · cases h2
    · cases h
  · cases h
/-! ### the end of a row cleared -/
def repT {s : List SK} (y : Tup s) : Nat → List (Tup s)
  | 0 => []
  | n + 1 => y :: repT y n
def clearL {α : Type} (l : List α) (j : Nat) (y : α) : List α := l.take j ++ List.replicate (l.length - j) y
def opClear (P : Program) (S : AS) (ts : Array TypeId) (x : PV) (κ : Eff → Option ρ) : Option ρ := match x, ts[0]? with
  | .ocut i j sz, some t => match P.underlying t, S.σ i with
    | some (.slice e), .own fr T s l => match zeroB P e with
      | some z => match unT S s (z.cells.toList.map .v) with
        | some (y, f, []) => bif Nat.beq sz s.length && (s.all flatK && (Nat.beq z.cells.size s.length && (z.cells.toList.all Value.oneCell' && Nat.blt 0 s.length))) then κ ⟨.un, [(i, .own fr T s (clearL l j.toNat y))]⟩ else none
        | _ => none
      | none => none
    | _, _ => none
  | _, _ => none
theorem run_clear_cells {t e ty : TypeId} {z : Value} {g off n c : Nat} {cur : Array Value} {T : TypeId} (hu : P.underlying t = some (.slice e)) (hz : zeroB P e = some z) (h1 : ∀ u ∈ z.cells.toList, u.oneCell' = true) (hs : 0 < z.cells.size) (hn : 0 < n) (hg : w.heap[g]? = some (.cells cur T (0, 0))) (hb : off + n * z.cells.size ≤ cur.size) :
    (Builtin.clear_ #[t] ty #[.slice (some ⟨g, off, none⟩) n c]).run P w = .ok (.tuple #[]) (w.setCells g off (Builtin.zeroCells z.cells n).toList) := by
  have hlen : (Builtin.zeroCells z.cells n).toList.length = n * z.cells.size := by simp [Builtin.zeroCells]
  have hmem : ∀ v ∈ (Builtin.zeroCells z.cells n).toList, v.oneCell' = true := fun v hv => by
    simp only [Builtin.zeroCells, Array.toList_map, List.mem_map] at hv
    obtain ⟨q, _, rfl⟩ := hv
    have hq : q % z.cells.size < z.cells.size := Nat.mod_lt _ hs
    rw [getElem!_pos z.cells _ hq]
    exact h1 _ (by simp)
  have hst := run_storeCells_cells (P := P) g off (Builtin.zeroCells z.cells n).toList 0 w (fun j hj => ?_) (fun j hj => ?_) hmem
  · simp only [Nat.add_zero] at hst
    obtain ⟨m, rfl⟩ : ∃ m, n = m + 1 := ⟨n - 1, by omega⟩
    simp [Builtin.clear_, run_underlying hu, zeroB_ok hz, hst]
  · rw [Nat.add_zero]
    have : off + j < cur.size := by omega
    simp [World.cell?, hg, this]
  · rw [Nat.add_zero]
    simp [World.frozen?, hg]
theorem seg_clear {s : List SK} {xs zs : List Value} {n j k : Nat} (hz : zs.length = s.length) (h0 : 0 < s.length) (hx : xs.length = n * s.length) (hj : j ≤ k) (hk : k < n) (vs : List Value) (hvl : vs.length = (n - j) * s.length) (hv : ∀ q, q < vs.length → vs[q]? = zs[q % s.length]?) : ((setL xs (j * s.length) vs).drop (k * s.length)).take s.length = zs := by
  have hjn : j * s.length + (n - j) * s.length = n * s.length := by rw [← Nat.add_mul]; congr 1; omega
  have hb : j * s.length + vs.length ≤ xs.length := by rw [hvl, hx]; omega
  have hk1 : k * s.length + s.length ≤ n * s.length := by
    have := Nat.mul_le_mul_right s.length hk
    rwa [Nat.succ_mul] at this
  have hjk : j * s.length ≤ k * s.length := Nat.mul_le_mul_right _ hj
  have hd : k * s.length - j * s.length = (k - j) * s.length := by rw [Nat.sub_mul]
  apply List.ext_getElem?
  intro q
  by_cases hq : q < s.length
  · rw [List.getElem?_take_of_lt hq, List.getElem?_drop, setL_get _ _ _ _ hb, if_pos (by rw [hvl]; omega), hv _ (by rw [hvl]; omega)]
    have : (k * s.length + q - j * s.length) % s.length = q := by
      rw [show k * s.length + q - j * s.length = q + (k - j) * s.length by omega, Nat.add_mul_mod_self_right, Nat.mod_eq_of_lt hq]
    rw [this]
  · rw [List.getElem?_eq_none (by rw [List.length_take]; omega), List.getElem?_eq_none (by omega)]
theorem seg_before {s : List SK} {xs vs : List Value} {j k : Nat} (hb : j * s.length + vs.length ≤ xs.length) (hk : k < j) : ((setL xs (j * s.length) vs).drop (k * s.length)).take s.length = (xs.drop (k * s.length)).take s.length := by
  have hk1 : k * s.length + s.length ≤ j * s.length := by
    have := Nat.mul_le_mul_right s.length hk
    rwa [Nat.succ_mul] at this
  apply List.ext_getElem?
  intro q
  by_cases hq : q < s.length
  · rw [List.getElem?_take_of_lt hq, List.getElem?_take_of_lt hq, List.getElem?_drop, List.getElem?_drop, setL_get _ _ _ _ hb, if_neg (by omega)]
  · rw [List.getElem?_eq_none (by rw [List.length_take]; omega), List.getElem?_eq_none (by rw [List.length_take]; omega)]
theorem clear_ok {x : Operand} {ts : Array TypeId} {κ : Eff → Option ρ} (ho : o.op = .call { callee := .builtin .clear, args := #[x], argTypes := ts }) (h : opClear P S ts (S.ev x) κ = some r) : Sound P w0 N S id0 o κ r := by
  unfold opClear at h
  split at h
  · rename_i i j sz t hx ht
    split at h
    · rename_i e fr T s l hu hσ
      split at h
      · rename_i z hz
        split at h
        · rename_i y f hun
          rcases cond_some h with ⟨hc, hh⟩ | ⟨_, h2⟩
          · clear h
            simp only [Bool.and_eq_true] at hc
            obtain ⟨c1, c2, c3, c4, c5⟩ := hc
            have e1 := Nat.eq_of_beq_eq_true c1
            have e3 := Nat.eq_of_beq_eq_true c3
            have e5 : 0 < s.length := Nat.le_of_ble_eq_true c5
            subst e1
            refine ⟨_, hh, ?_⟩
            intro S' m a w hl hf hr K Q hK
            have hr0 := hr.le hl
            have hσ' : S'.σ i = .own fr T s l := Le.blk hl hσ (by simp)
            have hxv := hr0.ev x
            rw [hx] at hxv
            generalize hzz : a.eval x = zz at hxv
            cases hxv with | ocut hv h0 h1 =>
            have hb := hr.heap.blk i
            rw [hσ'] at hb
            obtain ⟨xs, b1, b2, b3⟩ := hb
            obtain ⟨A, c, hA, hnc⟩ := own_slice b1
            rw [hv, Value.slice.injEq] at hA
            obtain ⟨hA1, hA2, hA3⟩ := hA
            have hA1' := hA1.symm
            have hA3' := hA3.symm
            subst hA1'
            subst hA2
            subst hA3'
            have hty := unT_ok hr0 hun (RepVs.exact (m := m) (B0 := w0.heap.size) (w := w) z.cells.toList)
            have hts : ts = #[t] ∨ True := .inr trivial
            have hexec : ∀ w', (Builtin.clear_ ts o.type #[a.eval x]).run P w = .ok (.tuple #[]) w' → (execOp a.eval o).run P w = .ok (.value (.tuple #[])) w' := fun w' hcl => by
              unfold execOp
              simp only [ho, resolve, invoke, builtin, Sem.run_bind, Sem.run_pure, Result.andThen_ok, List.map_toArray, List.map_cons, List.map_nil]
              simp [builtin, hcl]
            have hcl1 : ∀ v, (Builtin.clear_ ts o.type #[v]) = (Builtin.clear_ #[t] o.type #[v]) := fun v => by
              unfold Builtin.clear_
              simp [ht]
            have hblk0 : ∀ k, (m.v i).ownBlock = some k → blkOf m i (S'.σ i) k := fun k hk => by rw [hσ']; exact hk
            by_cases hn : l.length - j.toNat = 0
            · -- nothing to clear
              have hrun := hexec w (by
                rw [hcl1, hzz, hn]
                unfold Builtin.clear_
                simp [run_underlying hu]
                split <;> simp_all)
              have hl' : clearL l j.toNat y = l := by
                unfold clearL
                rw [hn, List.take_of_length_le (by omega)]
                simp
              unfold Oper.wp
              rw [hrun, Oper.upon_value]
              refine hK m w _ (Grows.refl _ _ _) ?_ .un
              rw [hl']
              refine Heap.step (fun q => q = i) hr.heap (Grows.refl (old id0) _ _) hf.σ (fun q hq => ⟨by rw [updσ_one, if_neg hq], hf.p q⟩) (fun q k hq hk => ⟨rfl, (blk_lt hr.heap hk).2.1⟩) (fun q hq => ?_) (fun q j' k hqj hq h3 h4 => ?_) hr.heap.flt hr.heap.below
              · subst hq
                rw [updσ_one, if_pos rfl]
                exact ⟨xs, b1, b2, b3⟩
              · subst hq
                rw [updσ_one, if_pos rfl] at h3
                rw [updσ_one, if_neg (Ne.symm hqj)] at h4
                exact hr.heap.apart q j' k hqj (by rw [hσ']; exact h3) h4
            · rcases b1.2 with ⟨hnil, hl0⟩ | ⟨g, cap, cur, hv', hg', hh0, hc1, hc2, hc3, hc4⟩
              · omega
              rw [hv, Value.slice.injEq] at hv'
              obtain ⟨rfl, _, rfl⟩ := hv'
              have hblk : (m.v i).ownBlock = some g := by rw [hv]; rfl
              have hnF : ¬ m.F g := b3 g hblk
              have hcj : ¬ (c = j.toNat) := by omega
              have hmul2 : l.length * s.length ≤ c * s.length := Nat.mul_le_mul_right _ hc1
              have hjn : j.toNat * s.length + (l.length - j.toNat) * s.length = l.length * s.length := by rw [← Nat.add_mul]; congr 1; omega
              have hcl := run_clear_cells (P := P) (w := w) (t := t) (e := e) (ty := o.type) (z := z) (g := g) (off := j.toNat * s.length) (n := l.length - j.toNat) (c := c - j.toNat) (cur := cur) (T := T) hu hz (fun u hu' => List.all_eq_true.1 c4 u hu') (by omega) (by omega) hh0 (by rw [e3, hc3]; omega)
              have hrun := hexec _ (by
                rw [hcl1, hzz, if_neg hcj]
                have : (some (⟨g, 0, none⟩ : Addr)).map (fun x => x.add (j.toNat * s.length)) = some ⟨g, j.toNat * s.length, none⟩ := by
                  have hadd : (⟨g, 0, none⟩ : Addr).add (j.toNat * s.length) = ⟨g, 0 + j.toNat * s.length, none⟩ := by unfold Addr.add; split <;> simp_all
                  rw [Option.map_some, hadd, Nat.zero_add]
                rw [this]
                exact hcl)
              unfold Oper.wp
              rw [hrun, Oper.upon_value]
              generalize hvs : (Builtin.zeroCells z.cells (l.length - j.toNat)).toList = vs at *
              have hvl : vs.length = (l.length - j.toNat) * s.length := by rw [← hvs]; simp [Builtin.zeroCells, e3]
              have hvg : ∀ q, q < vs.length → vs[q]? = z.cells.toList[q % s.length]? := fun q hq => by
                rw [hvl] at hq
                have hm : q % s.length < z.cells.size := by rw [e3]; exact Nat.mod_lt _ e5
                rw [← hvs]
                simp only [Builtin.zeroCells, Array.toList_map, Array.toList_range, List.getElem?_map, e3]
                rw [List.getElem?_range hq]
                simp only [Option.map_some]
                rw [getElem!_pos z.cells _ hm]
                simp [hm]
              have hxl : xs.length = l.length * s.length := b1.1
              have hb2 : j.toNat * s.length + vs.length ≤ xs.length := by rw [hvl, hxl]; omega
              have hcurl : cur.toList.length = c * s.length := by simpa using hc3
              have hb1 : j.toNat * s.length + vs.length ≤ cur.toList.length := by rw [hcurl, hvl]; omega
              have hs := heap_setCells vs (j.toNat * s.length) w _ hh0
              have hg : Grows (old id0) m m w (w.setCells g (j.toNat * s.length) vs) := ⟨fun _ _ => rfl, fun _ _ => rfl, fun k hk => ⟨hk, heap_setCells_other (fun (e : k = g) => hnF (by rw [← e]; exact hk)) _ _ _⟩⟩
              have hll : (clearL l j.toNat y).length = l.length := by
                unfold clearL
                rw [List.length_append, List.length_take, List.length_replicate]; omega
              refine hK m _ _ hg ?_ .un
              refine Heap.step (fun q => q = i) hr.heap hg hf.σ (fun q hq => ⟨by rw [updσ_one, if_neg hq], hf.p q⟩) (fun q k hq hk => ⟨heap_setCells_other (fun e => hr.heap.apart q i k hq hk (by rw [hσ', e]; exact hblk)) _ _ _, (blk_lt hr.heap hk).2.1⟩) (fun q hq => ?_) (fun q j' k hqj hq h3 h4 => ?_) (fun k hk => by rw [size_setCells]; exact hr.heap.flt k hk) (hr.heap.below.trans (below_setCells hg' _ _ _))
              · subst hq
                rw [updσ_one, if_pos rfl]
                have hsetlen : (setL xs (j.toNat * s.length) vs).length = xs.length := setL_len _ _ _ hb2
                refine ⟨setL xs (j.toNat * s.length) vs, ⟨by rw [hsetlen, hll]; exact hxl, .inr ⟨g, c, _, by rw [hll]; exact hv, hg', hs, by rw [hll]; exact hc1, hc2, ?_, ?_⟩⟩, ?_, fun k hk => by rw [hblk] at hk; cases hk; exact hnF⟩
                · rw [← Array.length_toList, setFrom_toList _ _ _ hb1, ← hcurl]
                  exact setL_len cur.toList vs _ hb1
                · rw [setFrom_toList _ _ _ hb1, hll]
                  apply List.ext_getElem?
                  intro q
                  show (((setL cur.toList (j.toNat * s.length) vs)).take (l.length * s.length))[q]? = _
                  rw [setL_get _ _ _ _ hb2]
                  by_cases hq : q < l.length * s.length
                  · rw [List.getElem?_take_of_lt hq, setL_get _ _ _ _ hb1]
                    split
                    · rfl
                    · rw [← hc4, List.getElem?_take_of_lt hq]
                  · rw [List.getElem?_eq_none (by rw [List.length_take]; omega), if_neg (by rw [hxl] at hb2; omega), List.getElem?_eq_none (by omega)]
                · intro q x' hq
                  have hmv : ∀ {x : Tup s} {cs : List Value}, TupIs (okOf m w0.heap.size fr) w s x cs → TupIs (okOf m w0.heap.size fr) (w.setCells g (j.toNat * s.length) vs) s x cs := fun h => TupIs.move (fun b hb => ⟨hb, heap_setCells_other (fun (e : b = g) => hnF (by rw [← e]; exact hb.1)) _ _ _⟩) h
                  have hql : q < l.length := by
                    have := (List.getElem?_eq_some_iff.1 hq).1
                    rwa [hll] at this
                  unfold clearL at hq
                  by_cases hqj : q < j.toNat
                  · rw [List.getElem?_append_left (by rw [List.length_take]; omega), List.getElem?_take_of_lt hqj] at hq
                    rw [seg_before hb2 hqj]
                    exact hmv (b2 q x' hq)
                  · rw [List.getElem?_append_right (by rw [List.length_take]; omega), List.getElem?_replicate] at hq
                    split at hq
                    · cases hq
                      rw [seg_clear (zs := z.cells.toList) (by simpa using e3) e5 hxl (by omega) hql vs hvl hvg]
                      exact hmv (TupIs.flat c2 hty)
                    · cases hq
              · subst hq
                rw [updσ_one, if_pos rfl] at h3
                rw [updσ_one, if_neg (Ne.symm hqj)] at h4
                exact hr.heap.apart q j' k hqj (by rw [hσ']; exact h3) h4
          · cases h2
        · cases h
      · cases h
    · cases h
  · cases h
end
end Go.Proofs.YtaknikdbnfmlfaaDoor.Ex
