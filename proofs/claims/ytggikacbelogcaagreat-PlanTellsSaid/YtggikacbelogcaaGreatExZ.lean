/- An executor of translated code on abstract states: calls that take a row of the caller's own over. -/
import Derived.Test.YtggikacbelogcaaGreatExX
namespace Go.Proofs.YtggikacbelogcaaGreat.Ex
open Go Go.RowKit
set_option linter.unusedVariables false
set_option linter.unusedSimpArgs false
/-- A call takes the row l over and hands a row back: in its place, or as its result. -/
def MutOk (P : Program) (f : FuncId) (T : TypeId) (s : List SK) (A : List PK) (inPlace : Bool) (F : List (Tup s) → PT A → Option (List (Tup s))) : Prop :=
  ∀ (l : List (Tup s)) (x : PT A) (r : List (Tup s)) (w : World) (v : Value) (vals : List Value) (base : Nat) (Fz Rd : Nat → Prop) (xs : List Value), F l x = some r → w.ownsRow base T s.length v l.length xs → base ≤ w.heap.size → RowsIs Fz w s l xs →
    (∀ k, Fz k → k < w.heap.size) → (∀ k, Rd k → k < w.heap.size) → (∀ k, v.ownBlock = some k → ¬ Fz k ∧ ¬ Rd k) → PTIs Rd w A x vals →
    Calls P f (v :: vals).toArray w fun e w' => ∃ v' xs', e = .returned (if inPlace then .tuple #[] else v') ∧ (inPlace = true → v' = v) ∧ w'.ownsRow base T s.length v' r.length xs' ∧ RowsIs Fz w' s r xs' ∧
      (∀ k, v'.ownBlock = some k → v.ownBlock = some k ∨ w.heap.size ≤ k) ∧ (w'.os = w.os ∧ w'.tape = w.tape ∧ w'.output = w.output) ∧ base ≤ w'.heap.size ∧ ∀ k, k < w.heap.size → v.ownBlock ≠ some k → w'.heap[k]? = w.heap[k]?
structure EntM (P : Program) where
  f : FuncId
  T : TypeId
  s : List SK
  A : List PK
  inPlace : Bool
  F : List (Tup s) → PT A → Option (List (Tup s))
  ok : MutOk P f T s A inPlace F
  enters : ∀ (args : Array Value) (w : World), (callFunc f args).run P w = .ok (.enter f args) w
section
variable {P : Program} {w0 : Org} {w : World} {N : Nat} {S : AS} {o : Oper} {ρ : Type} {r : ρ} {id0 : Nat}
def dropB (S : AS) (i : Nat) : AS := ⟨S.fr, fun j => bif Nat.beq j i then .no else S.σ j⟩
def mutE (id0 i : Nat) (fr inPlace : Bool) (T : TypeId) (s : List SK) (l : List (Tup s)) : Eff := bif inPlace then ⟨.un, [(i, .own fr T s l)]⟩ else ⟨.own id0, [(i, .no), (id0, .own fr T s l)]⟩
def callMut (S : AS) (id0 : Nat) (g : FuncId) (args : List PV) (κ : Eff → Option ρ) : List (EntM P) → Option ρ
  | [] => none
  | e :: q => bif Nat.beq e.f g then (match args with
    | .own i :: rest => match S.σ i with
      | .own fr T s l => bif Nat.beq T e.T then (match asRows s e.s l with
        | some l' => match unPs (dropB S i) e.A rest with
          | some x => (e.F l' x).bind fun y => κ (mutE id0 i fr e.inPlace e.T e.s y)
          | none => callMut S id0 g args κ q
        | none => callMut S id0 g args κ q) else callMut S id0 g args κ q
      | _ => callMut S id0 g args κ q
    | _ => callMut S id0 g args κ q) else callMut S id0 g args κ q
theorem dropB_le (i : Nat) : Le (dropB S i) S := ⟨fun t => .inr rfl, fun j => by
  show (bif Nat.beq j i then ABlk.no else S.σ j) = .no ∨ _ = (bif Nat.beq j i then ABlk.no else S.σ j)
  cases Nat.beq j i <;> simp⟩
theorem callMut_ok {f : Operand} {args : Array Operand} {ts : Array TypeId} {κ : Eff → Option ρ} {g : FuncId} {caps : List PV} (ho : o.op = .call { callee := .value f, args := args, argTypes := ts }) (hfv : S.ev f = .fn g caps) :
    ∀ {Φ : List (EntM P)}, callMut S id0 g (args.toList.map S.ev ++ caps) κ Φ = some r → Sound P w0 N S id0 o κ r
  | [], h => by cases h
  | e :: Φ, h => by
    rcases cond_some h with ⟨hef, hh⟩ | ⟨_, hh⟩
    · clear h
      have hef := Nat.eq_of_beq_eq_true hef
      split at hh
      · rename_i i rest hargs
        split at hh
        · rename_i fr T s l hσ
          rcases cond_some hh with ⟨hT, hk⟩ | ⟨_, hh⟩
          · clear hh
            have hT := Nat.eq_of_beq_eq_true hT
            subst hT
            split at hk
            · rename_i l' hl
              split at hk
              · rename_i x hx
                obtain ⟨y, hy, hk⟩ := Option.bind_eq_some_iff.1 hk
                obtain ⟨hse, hle⟩ := asRows_some hl
                refine ⟨_, hk, ?_⟩
                intro S' m a w hl' hf hr K Q hK
                have hr0 := hr.le hl'
                have h1 := hr0.ev f
                rw [hfv] at h1
                generalize hz : a.eval f = z at h1
                cases h1 with | fn h1 =>
                rename_i cv
                have hall := (evs_ok hr0 args.toList).append h1
                rw [hargs] at hall
                generalize hav : args.toList.map a.eval ++ cv = av at hall
                cases hall with | cons hv hrest =>
                rename_i v vs
                have hσ' : S'.σ i = .own fr e.T s l := Le.blk hl' hσ (by simp)
                have hb := hr.heap.blk i
                rw [hσ'] at hb
                obtain ⟨xs, b1, b2, b3⟩ := hb
                have hmv : m.v i = v := by cases hv with | own hv => exact hv
                rw [hmv] at b1 b3
                have hrd := hr0.le (dropB_le i)
                have hps := unPs_ok hrd hx hrest
                have hlt : w0.heap.size ≤ w.heap.size := hr.heap.below.size
                have hblk : ∀ k, v.ownBlock = some k → blkOf m i (S'.σ i) = some k := fun k hk => by rw [hσ']; show (m.v i).ownBlock = some k; rw [hmv]; exact hk
                have hnrd : ∀ k, v.ownBlock = some k → ¬ rd m (dropB S i) k := fun k hk h => by
                  rcases h with h | ⟨j, h⟩
                  · exact b3 k hk h
                  · have hji : Nat.beq j i = false := by
                      cases hq : Nat.beq j i with
                      | false => rfl
                      | true =>
                        have h' : blkOf m j (bif Nat.beq j i then .no else S.σ j) = some k := h
                        rw [hq] at h'; cases h'
                    have h' : blkOf m j (bif Nat.beq j i then .no else S.σ j) = some k := h
                    rw [hji] at h'
                    have hji' := Nat.ne_of_beq_eq_false hji
                    have h2 : blkOf m j (S'.σ j) = some k := by
                      rcases hl'.σ j with h3 | h3
                      · rw [h3] at h'; cases h'
                      · rw [h3]; exact h'
                    exact hr.heap.apart j i k hji' h2 (hblk k hk)
                subst hse
                have hle' : l' = l := hle
                subst hle'
                have hcall := e.ok l' x y w v vs w0.heap.size (okOf m w0.heap.size fr) (rd m (dropB S i)) xs hy b1 hlt b2 (fun k hk => hr.heap.flt k hk.1) (fun k hk => rd_lt hrd hk) (fun k hk => ⟨fun h => b3 k hk h.1, hnrd k hk⟩) hps
                have hrun : (execOp a.eval o).run P w = .ok (.enter g (args.toList.map a.eval ++ cv).toArray) w := by
                  have he := e.enters ((args.toList.map a.eval) ++ cv).toArray w
                  rw [hef] at he
                  have hm : args.map a.eval ++ cv.toArray = (args.toList.map a.eval ++ cv).toArray := by
                    apply Array.ext'
                    simp
                  unfold execOp
                  simp [ho, resolve, Deferred.ofValue, invoke, hz]
                  rw [hm]
                  simpa using he
                unfold Oper.wp
                rw [hrun, Oper.upon_enter, hav]
                rw [hef] at hcall
                refine hcall.mono fun en w' hh => ?_
                obtain ⟨v', xs', rfl, hip, c1, c2, c3, ⟨d1, d2, d3⟩, d4, d5⟩ := hh
                have hFst : ∀ k, m.F k → w'.heap[k]? = w.heap[k]? := fun k hk => d5 k (hr.heap.flt k hk) (fun h => b3 k h hk)
                have hFlt : ∀ k, m.F k → k < w'.heap.size := fun k hk => by
                  have h1 := hFst k hk
                  rw [Array.getElem?_eq_getElem (hr.heap.flt k hk)] at h1
                  exact (Array.getElem?_eq_some_iff.1 h1).1
                have hbel : Below w0.heap.size w0.toWorld w' := ⟨d1.trans hr.heap.below.os, d2.trans hr.heap.below.tape, d3.trans hr.heap.below.output, d4, fun k hk => (d5 k (by omega) (fun h => by have := (b1.lt k h).1; omega)).trans (hr.heap.below.block k hk)⟩
                have hst : ∀ j k, j ≠ i → blkOf m j (S'.σ j) = some k → w'.heap[k]? = w.heap[k]? := fun j k hj hk => d5 k (blk_lt hr.heap hk).1 (fun h => hr.heap.apart j i k hj hk (hblk k h))
                have hnF : ∀ k, v'.ownBlock = some k → ¬ m.F k := fun k hk hF => by
                  rcases c3 k hk with h | h
                  · exact b3 k h hF
                  · have := hr.heap.flt k hF; omega
                have hapart : ∀ j k, j ≠ i → blkOf m j (S'.σ j) = some k → v'.ownBlock = some k → False := fun j k hj hk hv' => by
                  rcases c3 k hv' with h | h
                  · exact hr.heap.apart j i k hj hk (hblk k h)
                  · have := (blk_lt hr.heap hk).1; omega
                have hid : i ≠ id0 := fun e => by
                  have := hf.no id0 (by have := old_new (id0 := id0) (k := 0) (by decide); simpa using this)
                  rw [← e, hσ'] at this; cases this
                cases hin : e.inPlace with
                | true =>
                  have hv' := hip hin
                  subst hv'
                  have hg : Grows (old id0) m m w w' := ⟨fun _ _ => rfl, fun _ _ => rfl, fun k hk => ⟨hk, hFst k hk⟩⟩
                  refine hK m w' _ hg ?_ (by simp only [mutE, hin]; exact .un)
                  simp only [mutE, hin, cond_true]
                  refine Heap.step (fun j => j = i) hr.heap hg hf.σ (fun j hj => ⟨by rw [updσ_one, if_neg hj], hf.p j⟩) (fun j k hj hk => ⟨hst j k hj hk, (blk_lt hr.heap hk).2.1⟩) (fun j hj => ?_) (fun j q k hjq hj h1 h2 => ?_) hFlt hbel
                  · subst hj
                    rw [updσ_one, if_pos rfl]
                    refine ⟨xs', by rw [hmv]; exact c1, c2, fun k hk => by rw [hmv] at hk; exact hnF k hk⟩
                  · subst hj
                    rw [updσ_one, if_pos rfl] at h1
                    rw [updσ_one, if_neg (Ne.symm hjq)] at h2
                    have h1' : (m.v j).ownBlock = some k := h1
                    rw [hmv] at h1'
                    exact hapart q k (Ne.symm hjq) h2 h1'
                | false =>
                  let m' : Nm := ⟨setAt m.v id0 v', m.b, m.F⟩
                  have hg : Grows (old id0) m m' w w' := ⟨fun j hj => setAt_ne (old_ne (k := 0) (by decide) hj), fun _ _ => rfl, fun k hk => ⟨hk, hFst k hk⟩⟩
                  have hsl : ∃ A n c, v' = .slice A n c := by
                    rcases c1.2 with ⟨h, _⟩ | ⟨_, _, _, h, _⟩ <;> exact ⟨_, _, _, h⟩
                  obtain ⟨vA, vn, vc, hvs⟩ := hsl
                  have hu2 : ∀ j, updσ S'.σ [(i, .no), (id0, .own fr e.T e.s y)] j = if j = id0 then .own fr e.T e.s y else if j = i then .no else S'.σ j := fun j => by
                    show updσ (fun k => bif Nat.beq k i then .no else S'.σ k) [(id0, .own fr e.T e.s y)] j = _
                    rw [updσ_one]
                    by_cases h1 : j = id0
                    · simp [h1]
                    · by_cases h2 : j = i
                      · subst h2; simp [h1]
                      · have hb : Nat.beq j i = false := by
                          cases hq : Nat.beq j i with
                          | true => exact absurd (Nat.eq_of_beq_eq_true hq) h2
                          | false => rfl
                        simp [h1, h2, hb]
                  refine hK m' w' _ hg ?_ ?_
                  · simp only [mutE, hin, cond_false]
                    refine Heap.step (fun j => j = i ∨ j = id0) hr.heap hg hf.σ (fun j hj => ⟨by rw [hu2, if_neg (fun e => hj (.inr e)), if_neg (fun e => hj (.inl e))], hf.p j⟩) (fun j k hj hk => ⟨hst j k (fun e => hj (.inl e)) hk, (blk_lt hr.heap hk).2.1⟩) (fun j hj => ?_) (fun j q k hjq hj h1 h2 => ?_) hFlt hbel
                    · rw [hu2]
                      by_cases h1 : j = id0
                      · rw [if_pos h1]
                        subst h1
                        have hvv : m'.v j = v' := setAt_self _ _ _
                        refine ⟨xs', by rw [hvv]; exact c1, c2, fun k hk => by rw [hvv] at hk; exact hnF k hk⟩
                      · rw [if_neg h1, if_pos (hj.resolve_right h1)]
                        trivial
                    · rw [hu2] at h1 h2
                      by_cases hj0 : j = id0
                      · rw [if_pos hj0] at h1
                        have hvv : m'.v j = v' := by rw [hj0]; exact setAt_self _ _ _
                        have h1' : (m'.v j).ownBlock = some k := h1
                        rw [hvv] at h1'
                        rw [if_neg (fun e => hjq (hj0.trans e.symm))] at h2
                        by_cases hqi : q = i
                        · rw [if_pos hqi] at h2; cases h2
                        · rw [if_neg hqi, blkOf.same hg (hf.p q)] at h2
                          exact hapart q k hqi h2 h1'
                      · rw [if_neg hj0, if_pos (hj.resolve_right hj0)] at h1
                        cases h1
                  · simp only [mutE, hin, cond_false]
                    have hvv : m'.v id0 = v' := setAt_self _ _ _
                    show RepV m' _ w' (.own id0) v'
                    rw [hvs]
                    rw [hvs] at hvv
                    exact .own hvv
              · exact callMut_ok ho hfv hk
            · exact callMut_ok ho hfv hk
          · exact callMut_ok ho hfv hh
        · exact callMut_ok ho hfv hh
      · exact callMut_ok ho hfv hh
    · exact callMut_ok ho hfv hh
end
end Go.Proofs.YtggikacbelogcaaGreat.Ex
