/- An executor of translated code on abstract states: arrays of ten bytes: a row's beginning as one, one that nobody writes, all of it as a row. -/
import Derived.Test.YtaknikdbnfmlfaaDoorExEE
namespace Go.Proofs.YtaknikdbnfmlfaaDoor.Ex
open Go Go.RowKit
set_option linter.unusedVariables false
set_option linter.unusedSimpArgs false
section
variable {P : Program} {w0 : Org} {w : World} {N : Nat} {S : AS} {o : Oper} {ρ : Type} {r : ρ} {id0 : Nat}
abbrev s10 : List SK := [.int .u8, .int .u8, .int .u8, .int .u8, .int .u8, .int .u8, .int .u8, .int .u8, .int .u8, .int .u8]
def tup10 (l : List Int) : Tup s10 := (l.getD 0 0, l.getD 1 0, l.getD 2 0, l.getD 3 0, l.getD 4 0, l.getD 5 0, l.getD 6 0, l.getD 7 0, l.getD 8 0, l.getD 9 0)
def list10 (x : Tup s10) : List Int := [x.1, x.2.1, x.2.2.1, x.2.2.2.1, x.2.2.2.2.1, x.2.2.2.2.2.1, x.2.2.2.2.2.2.1, x.2.2.2.2.2.2.2.1, x.2.2.2.2.2.2.2.2.1, x.2.2.2.2.2.2.2.2.2]
def isA10 (P : Program) (t : TypeId) : Bool := match P.underlying t with
  | some (.array n e) => Nat.beq n 10 && (match sizeB P e with
    | some z => Nat.beq z 1
    | none => false)
  | _ => false
theorem isA10_ok {t : TypeId} (h : isA10 P t = true) : ∃ e, P.underlying t = some (.array 10 e) ∧ sizeB P e = some 1 := by
  unfold isA10 at h
  split at h
  · rename_i n e he
    rw [Bool.and_eq_true] at h
    have := Nat.eq_of_beq_eq_true h.1
    subst this
    refine ⟨e, he, ?_⟩
    have h2 := h.2
    split at h2
    · rename_i z hz
      rw [hz, Nat.eq_of_beq_eq_true h2]
    · cases h2
  · cases h
def int8 : PV → Option Int
  | .v (.int .u8 n) => some n
  | _ => none
theorem int8_ok {x : PV} {n : Int} (h : int8 x = some n) : x = .v (.int .u8 n) := by
  unfold int8 at h
  split at h
  · cases h; rfl
  · cases h
def arrOn (P : Program) (S : AS) (o : Oper) : Bool := match o.op with
  | .sliceToArrayPointer t x => isA10 P t && (match S.ev x with
    | .row _ _ _ => true
    | _ => false)
  | .box t x => isA10 P t && (match S.ev x with
    | .agg _ => true
    | _ => false)
  | .slice t x none none none => isA10 P t && (match S.ev x with
    | .rptr _ _ _ _ => true
    | _ => false)
  | _ => false
def arrRun (P : Program) (S : AS) (id0 : Nat) (o : Oper) (κ : Eff → Option ρ) : Option ρ := match o.op with
  | .sliceToArrayPointer t x => bif isA10 P t then match S.ev x with
      | .row fr s l => match asRows s [.int .u8] l with
        | some l' => bif decide ((10 : Int) ≤ (l'.length : Int)) then κ ⟨.rptr fr s10 (tup10 l') 0, []⟩ else none
        | none => none
      | _ => none
    else none
  | .box t x => bif isA10 P t then match S.ev x with
      | .agg [a0, a1, a2, a3, a4, a5, a6, a7, a8, a9] => match int8 a0, int8 a1, int8 a2, int8 a3, int8 a4, int8 a5, int8 a6, int8 a7, int8 a8, int8 a9 with
        | some n0, some n1, some n2, some n3, some n4, some n5, some n6, some n7, some n8, some n9 => κ ⟨.rptr true s10 (n0, n1, n2, n3, n4, n5, n6, n7, n8, n9) 0, []⟩
        | _, _, _, _, _, _, _, _, _, _ => none
      | _ => none
    else none
  | .slice t x none none none => bif isA10 P t then match S.ev x with
      | .rptr fr s d off => bif Nat.beq off 0 then match asTup s s10 d with
          | some d' => κ ⟨.row fr [.int .u8] (list10 d'), []⟩
          | none => none
        else none
      | _ => none
    else none
  | _ => none
theorem cells10 {ok : Nat → Prop} {w : World} {b of : Nat} {l : List Int} (h10 : 10 ≤ l.length) (h : ∀ (i : Nat) (x : Int), l[i]? = some x → w.cell? ⟨b, of + i, none⟩ = some (.int .u8 x)) (hb : ok b) : SKIs ok w (.ptr s10) (tup10 l) (.pointer (some ⟨b, of, none⟩)) := by
  have g : ∀ i, i < 10 → w.cell? ⟨b, of + i, none⟩ = some (.int .u8 (l.getD i 0)) := fun i hi => by
    rw [List.getD_eq_getElem?_getD, List.getElem?_eq_getElem (by omega)]
    exact h i _ (List.getElem?_eq_getElem (by omega))
  simp only [SKIs]
  refine ⟨b, of, [.int .u8 (l.getD 0 0), .int .u8 (l.getD 1 0), .int .u8 (l.getD 2 0), .int .u8 (l.getD 3 0), .int .u8 (l.getD 4 0), .int .u8 (l.getD 5 0), .int .u8 (l.getD 6 0), .int .u8 (l.getD 7 0), .int .u8 (l.getD 8 0), .int .u8 (l.getD 9 0)], rfl, hb, rfl, ?_, ?_⟩
  · intro j u hu
    match j, hu with
    | 0, hu => cases hu; exact g 0 (by omega)
    | 1, hu => cases hu; exact g 1 (by omega)
    | 2, hu => cases hu; exact g 2 (by omega)
    | 3, hu => cases hu; exact g 3 (by omega)
    | 4, hu => cases hu; exact g 4 (by omega)
    | 5, hu => cases hu; exact g 5 (by omega)
    | 6, hu => cases hu; exact g 6 (by omega)
    | 7, hu => cases hu; exact g 7 (by omega)
    | 8, hu => cases hu; exact g 8 (by omega)
    | 9, hu => cases hu; exact g 9 (by omega)
    | j + 10, hu => simp at hu
  · simp [TupIs, SKIs, tup10]
theorem arr_ok {κ : Eff → Option ρ} (h : arrRun P S id0 o κ = some r) : Sound P w0 N S id0 o κ r := by
  unfold arrRun at h
  split at h
  · rename_i t x ho
    rcases cond_some h with ⟨ht, h⟩ | ⟨_, h2⟩
    · obtain ⟨e, hu, hz⟩ := isA10_ok ht
      split at h
      · rename_i fr s l hx
        split at h
        · rename_i l' hl
          rcases cond_some h with ⟨h10, hh⟩ | ⟨_, h2⟩
          · have h10 := of_decide_eq_true h10
            obtain ⟨rfl, rfl⟩ := asRows_some hl
            refine SoundV.sound (κ := κ) ⟨_, hh, fun m a w hr => ?_⟩
            have h3 := hr.ev x
            rw [hx] at h3
            generalize hzz : a.eval x = z at h3
            cases h3 with | row h3 =>
            simp only [SKIs] at h3
            obtain ⟨A, c, rfl, hc, hrow⟩ := h3
            have hn : 10 ≤ l'.length := by omega
            obtain ⟨b, o', cs, rfl, hok, hlen, hcs, htt⟩ := hrow 0 l'[0] (List.getElem?_eq_getElem (by omega))
            refine ⟨.pointer (some ⟨b, o', none⟩), run_of (s := Instr.arrayAt t (a.eval x)) (by unfold execOp; simp only [ho]) ?_, .rptr (off := 0) (o := o') ?_⟩
            · rw [hzz]
              simp only [Instr.arrayAt, Sem.run_bind, run_underlying hu, Result.andThen_ok]
              rw [if_neg (by omega)]
              rfl
            · refine cells10 (l := l') hn (fun i y hy => ?_) hok
              obtain ⟨b2, o2, cs2, h4, hok2, hlen2, hcs2, htt2⟩ := hrow i y hy
              cases h4
              simp only [TupIs, SKIs] at htt2
              obtain ⟨u, rfl, rfl⟩ := htt2
              have := hcs2 0 _ rfl
              simpa using this
          · cases h2
        · cases h
      · cases h
    · cases h2
  · rename_i t x ho
    rcases cond_some h with ⟨ht, h⟩ | ⟨_, h2⟩
    · split at h
      · rename_i a0 a1 a2 a3 a4 a5 a6 a7 a8 a9 hx
        split at h
        · rename_i n0 n1 n2 n3 n4 n5 n6 n7 n8 n9 e0 e1 e2 e3 e4 e5 e6 e7 e8 e9
          have e0 := int8_ok e0
          have e1 := int8_ok e1
          have e2 := int8_ok e2
          have e3 := int8_ok e3
          have e4 := int8_ok e4
          have e5 := int8_ok e5
          have e6 := int8_ok e6
          have e7 := int8_ok e7
          have e8 := int8_ok e8
          have e9 := int8_ok e9
          subst e0 e1 e2 e3 e4 e5 e6 e7 e8 e9
          refine ⟨_, h, ?_⟩
          intro S' m a w hl hf hr K Q hK
          have hr0 := hr.le hl
          have h1 := hr0.ev x
          rw [hx] at h1
          generalize hzz : a.eval x = z at h1
          cases h1 with | agg h1 =>
          rename_i vs
          have hvs : vs = [.int .u8 n0, .int .u8 n1, .int .u8 n2, .int .u8 n3, .int .u8 n4, .int .u8 n5, .int .u8 n6, .int .u8 n7, .int .u8 n8, .int .u8 n9] := by
            have key : ∀ (l : List Value) (us : List Value), RepVs m w0.heap.size w (l.map .v) us → us = l := fun l => by
              induction l with
              | nil => intro us h; cases h; rfl
              | cons y q ih => intro us h; cases h with | cons h hs => cases h; rw [ih _ hs]
            exact key [.int .u8 n0, .int .u8 n1, .int .u8 n2, .int .u8 n3, .int .u8 n4, .int .u8 n5, .int .u8 n6, .int .u8 n7, .int .u8 n8, .int .u8 n9] _ h1
          subst hvs
          have hB : Below w.heap.size w (w.alloc (.cells (#[.int .u8 n0, .int .u8 n1, .int .u8 n2, .int .u8 n3, .int .u8 n4, .int .u8 n5, .int .u8 n6, .int .u8 n7, .int .u8 n8, .int .u8 n9] : Array Value) t)) := (Below.refl _ _).alloc (Nat.le_refl _) _
          obtain ⟨hg, hh⟩ := Heap.all_new hr.heap hf hB
          have hrun : (execOp a.eval o).run P w = .ok (.value (.pointer (some ⟨w.heap.size, 0, none⟩))) (w.alloc (.cells (#[.int .u8 n0, .int .u8 n1, .int .u8 n2, .int .u8 n3, .int .u8 n4, .int .u8 n5, .int .u8 n6, .int .u8 n7, .int .u8 n8, .int .u8 n9] : Array Value) t)) := by
            unfold execOp
            simp only [ho, hzz]
            rfl
          unfold Oper.wp
          rw [hrun, Oper.upon_value]
          refine hK _ _ _ hg hh (.rptr (off := 0) (o := 0) ?_)
          refine cells10 (l := [n0, n1, n2, n3, n4, n5, n6, n7, n8, n9]) (by simp) (fun i y hy => ?_) ⟨.inr ⟨Nat.le_refl _, by simp⟩, fun _ => by have := hr.heap.below.size; omega⟩
          rw [Nat.zero_add]
          have hblk : (w.alloc (.cells (#[.int .u8 n0, .int .u8 n1, .int .u8 n2, .int .u8 n3, .int .u8 n4, .int .u8 n5, .int .u8 n6, .int .u8 n7, .int .u8 n8, .int .u8 n9] : Array Value) t)).heap[w.heap.size]? = some (.cells (#[.int .u8 n0, .int .u8 n1, .int .u8 n2, .int .u8 n3, .int .u8 n4, .int .u8 n5, .int .u8 n6, .int .u8 n7, .int .u8 n8, .int .u8 n9] : Array Value) t) := Array.getElem?_push_size
          match i, hy with
          | 0, hy => cases hy; exact (blk_cell hblk).trans rfl
          | 1, hy => cases hy; exact (blk_cell hblk).trans rfl
          | 2, hy => cases hy; exact (blk_cell hblk).trans rfl
          | 3, hy => cases hy; exact (blk_cell hblk).trans rfl
          | 4, hy => cases hy; exact (blk_cell hblk).trans rfl
          | 5, hy => cases hy; exact (blk_cell hblk).trans rfl
          | 6, hy => cases hy; exact (blk_cell hblk).trans rfl
          | 7, hy => cases hy; exact (blk_cell hblk).trans rfl
          | 8, hy => cases hy; exact (blk_cell hblk).trans rfl
          | 9, hy => cases hy; exact (blk_cell hblk).trans rfl
          | i + 10, hy => simp at hy
        · cases h
      · cases h
    · cases h2
  · rename_i t x ho
    rcases cond_some h with ⟨ht, h⟩ | ⟨_, h2⟩
    · obtain ⟨e, hu, hz⟩ := isA10_ok ht
      split at h
      · rename_i fr s d off hx
        rcases cond_some h with ⟨h0, h⟩ | ⟨_, h2⟩
        · have h0 := Nat.eq_of_beq_eq_true h0
          subst h0
          split at h
          · rename_i d' hd
            obtain ⟨rfl, rfl⟩ := asTup_some hd
            refine SoundV.sound (κ := κ) ⟨_, h, fun m a w hr => ?_⟩
            have h3 := hr.ev x
            rw [hx] at h3
            generalize hzz : a.eval x = z at h3
            cases h3 with | rptr h3 =>
            rename_i bb oo
            simp only [SKIs] at h3
            obtain ⟨b, o', cs, h4, hok, hlen, hcs, htt⟩ := h3
            cases h4
            simp only [TupIs, SKIs] at htt
            obtain ⟨_, _, rfl, rfl, _, _, rfl, rfl, _, _, rfl, rfl, _, _, rfl, rfl, _, _, rfl, rfl, _, _, rfl, rfl, _, _, rfl, rfl, _, _, rfl, rfl, _, _, rfl, rfl, _, rfl, rfl⟩ := htt
            refine ⟨.slice (some ⟨bb, oo, none⟩) 10 10, run_of (s := Instr.sliceAt t (a.eval x) none none none) (by unfold execOp; simp only [ho, Option.map_none]) ?_, .row ?_⟩
            · rw [hzz]
              simp only [Instr.sliceAt, Sem.run_bind, run_underlying hu, Result.andThen_ok, Nat.add_zero]
              simp [Instr.sureAddr, Instr.sliceBounds, Sem.run_bind, sizeB_ok hz, Addr.add]
            · simp only [SKIs]
              refine ⟨_, _, rfl, Nat.le_refl _, fun i y hy => ?_⟩
              have hc := fun j u hu => hcs j u hu
              refine ⟨bb, oo, [.int .u8 y], rfl, hok, rfl, fun j u hj => ?_, ⟨_, rfl, rfl⟩⟩
              match j, hj with
              | 0, hj =>
                cases hj
                rw [Nat.add_zero, List.length_singleton, Nat.mul_one]
                refine hcs i _ ?_
                unfold list10 at hy
                match i, hy with
                | 0, hy => cases hy; rfl
                | 1, hy => cases hy; rfl
                | 2, hy => cases hy; rfl
                | 3, hy => cases hy; rfl
                | 4, hy => cases hy; rfl
                | 5, hy => cases hy; rfl
                | 6, hy => cases hy; rfl
                | 7, hy => cases hy; rfl
                | 8, hy => cases hy; rfl
                | 9, hy => cases hy; rfl
                | i + 10, hy => cases (show (none : Option Int) = some y from hy)
              | j + 1, hj => simp at hj
          · cases h
        · cases h2
      · cases h
    · cases h2
  · cases h
def hkArr (P : Program) : Hook P := ⟨arrOn P, fun S id0 o κ => arrRun P S id0 o κ, fun _ h => arr_ok h⟩
end
end Go.Proofs.YtaknikdbnfmlfaaDoor.Ex
