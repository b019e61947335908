/- An executor of translated code on abstract states, tenth part: places in rows and arrays, cuts of rows. -/
import Derived.Test.YtggikacbelogcaaGreatExI
namespace Go.Proofs.YtggikacbelogcaaGreat.Ex
open Go Go.RowKit
set_option linter.unusedVariables false
set_option linter.unusedSimpArgs false
section
variable {P : Program} {w0 : Org} {w : World} {N : Nat} {S : AS} {o : Oper} {ρ : Type} {r : ρ} {id0 : Nat}
def idxArr (x : PV) (sz : Nat) (n : Int) (κ : PV → Option ρ) : Nat → Nat → Option ρ
  | 0, _ => none
  | f + 1, q => bif decide (n = (q : Int)) then match x.moved (q * sz) with
      | some p => κ p
      | none => none
    else idxArr x sz n κ f (q + 1)
theorem idxArr_ok {x : PV} {sz : Nat} {n : Int} {κ : PV → Option ρ} : ∀ {f q : Nat}, idxArr x sz n κ f q = some r → ∃ (j : Nat) (p : PV), n = (j : Int) ∧ j < q + f ∧ x.moved (j * sz) = some p ∧ κ p = some r
  | 0, q, h => by cases h
  | f + 1, q, h => by
    rcases cond_some h with ⟨h1, hh⟩ | ⟨_, hh⟩
    · have hn := of_decide_eq_true h1
      split at hh
      · rename_i p hp; exact ⟨q, p, hn, by omega, hp, hh⟩
      · cases hh
    · obtain ⟨j, p, h2, h3, h4⟩ := idxArr_ok hh
      exact ⟨j, p, h2, by omega, h4⟩
def opIdx (P : Program) (S : AS) (t : TypeId) (x i : PV) (κ : PV → Option ρ) : Option ρ := match P.underlying t, i with
  | some (.slice e), .v (.int _ n) => match sizeB P e, x with
    | some sz, .row fr s l => bif Nat.beq sz s.length then bif decide (0 ≤ n) then bif decide (n < (l.length : Int)) then κ (.rptr fr s (l.getD n.toNat (zT s)) 0) else none else none else none
    | some sz, .own i => match S.σ i with
      | .own _ _ s l => bif Nat.beq sz s.length && Nat.blt 0 sz then bif decide (0 ≤ n) then bif decide (n < (l.length : Int)) then κ (.eptr i n sz 0) else none else none else none
      | _ => none
    | _, _ => none
  | some (.array len e), .v (.int _ n) => match sizeB P e with
    | some sz => idxArr x sz n κ len 0
    | none => none
  | _, _ => none
theorem run_index {x i : Operand} {t : TypeId} {ev : Operand → Value} {v : Value} (ho : o.op = .indexAddr t x i) (h : (Instr.indexAt t (ev x) (ev i)).run P w = .ok v w) : (execOp ev o).run P w = .ok (.value v) w := run_of (by unfold execOp; simp only [ho]) h
theorem idx_ok {x i : Operand} {t : TypeId} {κ : PV → Option ρ} (ho : o.op = .indexAddr t x i) (h : opIdx P S t (S.ev x) (S.ev i) κ = some r) : SoundV P w0 N S o κ r := by
  unfold opIdx at h
  split at h
  · rename_i e k n hu hi
    split at h
    · rename_i sz fr s l hs hx
      rcases cond_some h with ⟨hsz, h1⟩ | ⟨_, h2⟩
      · rcases cond_some h1 with ⟨h0, h1⟩ | ⟨_, h2⟩
        · rcases cond_some h1 with ⟨hlt, hh⟩ | ⟨_, h2⟩
          · clear h
            have e0 := of_decide_eq_true h0
            have e1 := of_decide_eq_true hlt
            have e2 := Nat.eq_of_beq_eq_true hsz
            refine ⟨_, hh, fun m a w hr => ?_⟩
            have h3 := hr.ev x
            rw [hx] at h3
            generalize hz : a.eval x = z at h3
            cases h3 with | row h3 =>
            simp only [SKIs] at h3
            obtain ⟨A, c, rfl, hc, hrow⟩ := h3
            have hl : n.toNat < l.length := by omega
            obtain ⟨b, o', cs, rfl, hok, hlen, hcs, ht⟩ := hrow n.toNat l[n.toNat] (List.getElem?_eq_getElem hl)
            have hg : l.getD n.toNat (zT s) = l[n.toNat] := by rw [List.getD_eq_getElem?_getD, List.getElem?_eq_getElem hl]; rfl
            refine ⟨.pointer (some ⟨b, o' + n.toNat * sz + 0, none⟩), run_index ho ?_, .rptr ?_⟩
            · rw [hz, ev_v hr hi]
              simp only [Instr.indexAt, asIntOf, Sem.run_bind, run_underlying hu, Result.andThen_ok, Sem.run_pure]
              rw [if_pos ⟨e0, e1⟩]
              simp [Sem.run_bind, sizeB_ok hs, Addr.add_mid]
            · simp only [SKIs]
              exact ⟨b, _, cs, rfl, hok, hlen, by rw [e2]; exact hcs, by rw [hg]; exact ht⟩
          · cases h2
        · cases h2
      · cases h2
    · rename_i sz i' hs hx
      split at h
      · rename_i fr T s l hσ
        rcases cond_some h with ⟨hsz, h1⟩ | ⟨_, h2⟩
        · rcases cond_some h1 with ⟨h0, h1⟩ | ⟨_, h2⟩
          · rcases cond_some h1 with ⟨hlt, hh⟩ | ⟨_, h2⟩
            · clear h
              have e0 := of_decide_eq_true h0
              have e1 := of_decide_eq_true hlt
              refine ⟨_, hh, fun m a w hr => ?_⟩
              have h3 := hr.ev x
              rw [hx] at h3
              generalize hz : a.eval x = z at h3
              cases h3 with | own h3 =>
              have hb := hr.heap.blk i'
              rw [hσ] at hb
              obtain ⟨xs, b1, b2, b3⟩ := hb
              rcases b1.2 with ⟨hn, hn0⟩ | ⟨g', cap, cur, hv', hg', _⟩
              · rw [hn0] at e1; omega
              · have hv2 := hv'
                rw [h3] at hv'
                cases hv'
                refine ⟨.pointer (some ⟨g', n.toNat * sz + 0, none⟩), run_index ho ?_, .eptr hv2 e0 e1⟩
                rw [hz, ev_v hr hi]
                simp only [Instr.indexAt, asIntOf, Sem.run_bind, run_underlying hu, Result.andThen_ok, Sem.run_pure]
                rw [if_pos ⟨e0, e1⟩]
                simp [Sem.run_bind, sizeB_ok hs, Addr.add_mid]
            · cases h2
          · cases h2
        · cases h2
      · cases h
    · cases h
  · rename_i len e k n hu hi
    split at h
    · rename_i sz hs
      obtain ⟨j, p, rfl, hj, hp, hh⟩ := idxArr_ok h
      refine ⟨_, hh, fun m a w hr => ?_⟩
      obtain ⟨b, off, hv, hrv⟩ := moved_ok hp (hr.ev x)
      refine ⟨_, run_index ho ?_, hrv⟩
      rw [hv, ev_v hr hi]
      have h1 : (0 : Int) ≤ (j : Int) ∧ (j : Int) < (len : Int) := ⟨by omega, by omega⟩
      simp only [Instr.indexAt, asIntOf, Sem.run_bind, run_underlying hu, Result.andThen_ok, Sem.run_pure, Instr.sureAddr]
      rw [if_pos h1]
      simp [Sem.run_bind, sizeB_ok hs, Addr.add_mid]
    · cases h
  · cases h
/-! ### cuts -/
def bound (x : Option PV) : Option (Option Int) := match x with
  | none => some none
  | some (.v (.int _ n)) => some (some n)
  | some _ => none
theorem row_take {ok : Nat → Prop} {s : List SK} {l : List (Tup s)} {A : Option Addr} {c n k : Nat} (h : SKIs ok w (.row s) l (.slice A l.length c)) (hk : k ≤ l.length) : SKIs ok w (.row s) (l.take k) (.slice A k c) := by
  simp only [SKIs] at h ⊢
  obtain ⟨A', c', he, hc, hr⟩ := h
  cases he
  have hl : (l.take k).length = k := by rw [List.length_take]; omega
  refine ⟨A, c, by rw [hl], by rw [hl]; omega, fun i x hx => ?_⟩
  have hi : i < k := by
    have := (List.getElem?_eq_some_iff.1 hx).1
    omega
  rw [List.getElem?_take_of_lt hi] at hx
  exact hr i x hx
theorem row_drop {ok : Nat → Prop} {s : List SK} {l : List (Tup s)} {A : Option Addr} {c k : Nat} (h : SKIs ok w (.row s) l (.slice A l.length c)) (hk : k ≤ l.length) : SKIs ok w (.row s) (l.drop k) (.slice (if c = k then A else A.map (·.add (k * s.length))) (l.length - k) (c - k)) := by
  simp only [SKIs] at h ⊢
  obtain ⟨A', c', he, hc, hr⟩ := h
  cases he
  have hl : (l.drop k).length = l.length - k := by rw [List.length_drop]
  refine ⟨_, _, by rw [hl], by rw [hl]; omega, fun i x hx => ?_⟩
  have hi : i < l.length - k := by
    have := (List.getElem?_eq_some_iff.1 hx).1
    omega
  rw [List.getElem?_drop] at hx
  obtain ⟨b, o, cs, rfl, hok, hlen, hcs, ht⟩ := hr (k + i) x hx
  refine ⟨b, o + k * s.length, cs, ?_, hok, hlen, ?_, ht⟩
  · rw [if_neg (by omega)]
    simp [Addr.add_mid]
  · rw [Nat.add_mul, ← Nat.add_assoc] at hcs
    exact hcs
def opCut (P : Program) (S : AS) (t : TypeId) (x : PV) (lo hi : Option PV) (κ : PV → Option ρ) : Option ρ := match P.underlying t, x, bound lo, bound hi with
  | some (.slice e), .row fr s l, some lo, some hi => match sizeB P e with
    | some sz => bif Nat.beq sz s.length then match lo, hi with
      | none, some h => bif decide (0 ≤ h) then bif decide (h ≤ (l.length : Int)) then κ (.row fr s (l.take h.toNat)) else none else none
      | some a, none => bif decide (0 ≤ a) then bif decide (a ≤ (l.length : Int)) then κ (.row fr s (l.drop a.toNat)) else none else none
      | some a, some h => bif decide (0 ≤ a) then bif decide (a ≤ h) then bif decide (h ≤ (l.length : Int)) then κ (.row fr s ((l.take h.toNat).drop a.toNat)) else none else none else none
      | none, none => none else none
    | none => none
  | _, _, _, _ => none
theorem bound_ok {m : Nm} {a : Act} (hr : Rep w0 N m S a w) {x : Option Operand} {n : Option Int} (h : bound (x.map S.ev) = some n) : ∃ k, x.map a.eval = n.map (Value.int k) := by
  unfold bound at h
  cases x with
  | none => simp only [Option.map_none] at h; cases h; exact ⟨.i64, rfl⟩
  | some x =>
    simp only [Option.map_some] at h
    split at h
    · rename_i he; cases he
    · rename_i k n' he
      cases h
      exact ⟨k, by rw [Option.map_some, ev_v hr (Option.some.inj he)]; rfl⟩
    · cases h
theorem cut_ok {x : Operand} {lo hi : Option Operand} {t : TypeId} {κ : PV → Option ρ} (ho : o.op = .slice t x lo hi none) (h : opCut P S t (S.ev x) (lo.map S.ev) (hi.map S.ev) κ = some r) : SoundV P w0 N S o κ r := by
  unfold opCut at h
  split at h
  · rename_i e fr s l lo' hi' hu hx hlo hhi
    split at h
    · rename_i sz hs
      rcases cond_some h with ⟨hsz, h⟩ | ⟨_, h2⟩
      · have e2 := Nat.eq_of_beq_eq_true hsz
        have hel : P.elem t = e := by simp [Program.elem, hu]
        have hu' : P.underlying t = some (.slice (P.elem t)) := by rw [hel]; exact hu
        have hsa : ∀ v lo hi w, (Instr.sliceAt t v lo hi none).run P w = (Instr.slice t v lo hi none).run P w := fun v lo hi w => by
          simp only [Instr.sliceAt, Sem.run_bind, run_underlying hu, Result.andThen_ok]
        have hrun : ∀ a : Act, ∀ v w, (Instr.slice t (a.eval x) (lo.map a.eval) (hi.map a.eval) none).run P w = .ok v w → (execOp a.eval o).run P w = .ok (.value v) w := fun a v w hv =>
          run_of (s := Instr.sliceAt t (a.eval x) (lo.map a.eval) (hi.map a.eval) none) (by unfold execOp; simp only [ho, Option.map_none]) (by rw [hsa]; exact hv)
        have hval : ∀ m a w, Rep w0 N m S a w → ∃ A c, a.eval x = .slice A l.length c ∧ l.length ≤ c ∧ SKIs (okOf m w0.heap.size fr) w (.row s) l (.slice A l.length c) := fun m a w hr => by
          have h3 := hr.ev x
          rw [hx] at h3
          generalize hz : a.eval x = z at h3
          cases h3 with | row h3 =>
          have h4 := h3
          simp only [SKIs] at h4
          obtain ⟨A, c, rfl, hc, _⟩ := h4
          exact ⟨A, c, rfl, hc, h3⟩
        rcases lo' with _ | al <;> rcases hi' with _ | hq
        · cases h
        · rcases cond_some h with ⟨h0, h⟩ | ⟨_, h2⟩
          · rcases cond_some h with ⟨h1, hh⟩ | ⟨_, h2⟩
            · have e0 := of_decide_eq_true h0
              have e1 := of_decide_eq_true h1
              refine ⟨_, hh, fun m a w hr => ?_⟩
              obtain ⟨A, c, hv, hc, hrow⟩ := hval m a w hr
              obtain ⟨k1, b1⟩ := bound_ok hr hlo
              obtain ⟨k2, b2⟩ := bound_ok hr hhi
              have := row_take (n := 0) hrow (k := hq.toNat) (by omega)
              refine ⟨_, hrun a _ w ?_, .row this⟩
              rw [hv, b1, b2]
              simp only [Option.map_none, Option.map_some]
              rw [run_slice_h w t A l.length c hu' k2 hq e0 (by omega), hel]
              simp only [sizeB_ok hs, Result.andThen_ok, sliced]
              have ha : (A.map fun x => x.add (0 * sz)) = A := by cases A <;> simp [Addr.add]
              simp [ha]
              intro _
              cases A <;> simp [Addr.add]
            · cases h2
          · cases h2
        · rcases cond_some h with ⟨h0, h⟩ | ⟨_, h2⟩
          · rcases cond_some h with ⟨h1, hh⟩ | ⟨_, h2⟩
            · have e0 := of_decide_eq_true h0
              have e1 := of_decide_eq_true h1
              refine ⟨_, hh, fun m a w hr => ?_⟩
              obtain ⟨A, c, hv, hc, hrow⟩ := hval m a w hr
              obtain ⟨k1, b1⟩ := bound_ok hr hlo
              obtain ⟨k2, b2⟩ := bound_ok hr hhi
              have := row_drop hrow (k := al.toNat) (by omega)
              refine ⟨_, hrun a _ w ?_, .row this⟩
              rw [hv, b1, b2]
              simp only [Option.map_none, Option.map_some]
              rw [run_slice_l w t A l.length c hu' k1 al e0 (by omega), hel]
              simp only [sizeB_ok hs, Result.andThen_ok, sliced, ← e2]
            · cases h2
          · cases h2
        · rcases cond_some h with ⟨h0, h⟩ | ⟨_, h2⟩
          · rcases cond_some h with ⟨h1, h⟩ | ⟨_, h2⟩
            · rcases cond_some h with ⟨h3, hh⟩ | ⟨_, h2⟩
              · have e0 := of_decide_eq_true h0
                have e1 := of_decide_eq_true h1
                have e3 := of_decide_eq_true h3
                refine ⟨_, hh, fun m a w hr => ?_⟩
                obtain ⟨A, c, hv, hc, hrow⟩ := hval m a w hr
                obtain ⟨k1, b1⟩ := bound_ok hr hlo
                obtain ⟨k2, b2⟩ := bound_ok hr hhi
                have t1 := row_take (n := 0) hrow (k := hq.toNat) (by omega)
                have hlt : (l.take hq.toNat).length = hq.toNat := by rw [List.length_take]; omega
                have t2 : SKIs (okOf m w0.heap.size fr) w (.row s) (l.take hq.toNat) (.slice A (l.take hq.toNat).length c) := by rw [hlt]; exact t1
                have := row_drop (l := l.take hq.toNat) t2 (k := al.toNat) (by rw [hlt]; omega)
                refine ⟨_, hrun a _ w ?_, .row this⟩
                rw [hv, b1, b2]
                simp only [Option.map_some]
                rw [run_slice_lh w t A l.length c hu' k1 k2 al hq e0 e1 (by omega), hel]
                simp only [sizeB_ok hs, Result.andThen_ok, sliced, ← e2, hlt]
              · cases h2
            · cases h2
          · cases h2
      · cases h2
    · cases h
  · cases h
end
end Go.Proofs.YtggikacbelogcaaGreat.Ex
