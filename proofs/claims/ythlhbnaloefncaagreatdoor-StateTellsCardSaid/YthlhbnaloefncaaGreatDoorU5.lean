/- Part 5 of what the statements' rows lean on: the executor, the functions' trees, and what they come to in plain words. -/
import Derived.Test.YthlhbnaloefncaaGreatDoorU4
import Derived.Test.YthlhbnaloefncaaGreatDoorProg
import Derived.Lib.Walk
import Derived.Lib.SliceRun
import Derived.Lib.AppendZeros
import Derived.Laws.Externs
import Derived.Laws.NewBlocks
import Derived.OwnWalk
import Derived.KernelRfl
import Derived.Lib.SpaceUEq
import Derived.Lib.FieldsU
import Derived.Laws.RangeAny
import Derived.Lib.SplitLaws
import Derived.Lib.IndexBytes
import Derived.Lib.Strings
import Derived.Below
import Derived.Deep.Draws
import Derived.WalkKit
import Derived.RowKit3
import Derived.Deep.LoopGhost
import Derived.Deep.CutBlock
import Derived.Deep.QuietTactic
import Derived.BigQuiet
import Derived.WideLaws
import Derived.Lib.OthersKept
import Derived.Lib.Hide
import Derived.Deep.DeepMust
import Derived.Laws.OwnMore
import Derived.WalkSmall
import Derived.Deep.AppendLies
import Derived.Maps.AppendAt
import Derived.Laws.BytesArg
import Derived.Laws.MakeOwn
import Derived.Deep.OwnRows
import Derived.Tactics
import Derived.Lib.ConvBytes
import Derived.Laws.Slices
import Derived.Deep.DeepCutAuto
import Derived.Deep.RegionHeld3
import Derived.Laws.Rows
import Derived.Lib.AppendStr
import Derived.ArgAppend
import Derived.Laws.IdiomCopy
import Derived.OrdersHeld
import Derived.Laws.BitsLemmas
import Derived.RowKit
import Derived.Laws.Strings2
import Derived.Laws.Strings3
import Derived.Lib.ItoaNum
namespace Go.Proofs.YthlhbnaloefncaaGreatDoor
set_option linter.unusedVariables false
set_option linter.unusedSimpArgs false
namespace Ex
open Go Go.RowKit
section
variable {P : Program} {w0 : Org} {w : World} {N : Nat} {S : AS} {o : Oper} {ρ : Type} {r : ρ} {id0 : Nat}
def ixArr (P : Program) (e : TypeId) (sz : Nat) (cs : List PV) (n : Int) (κ : PV → Option ρ) : Nat → Nat → Option ρ
  | 0, _ => none
  | f + 1, q => bif decide (n = (q : Int)) then match partB P e cs (q * sz) with
      | some p => κ p
      | none => none
    else ixArr P e sz cs n κ f (q + 1)
theorem ixArr_ok {e : TypeId} {sz : Nat} {cs : List PV} {n : Int} {κ : PV → Option ρ} : ∀ {f q : Nat}, ixArr P e sz cs n κ f q = some r → ∃ (j : Nat) (p : PV), n = (j : Int) ∧ j < q + f ∧ partB P e cs (j * sz) = some p ∧ κ p = some r
  | 0, q, h => by cases h
  | f + 1, q, h => by
    rcases cond_some h with ⟨h1, hh⟩ | ⟨_, hh⟩
    · have hn := of_decide_eq_true h1
      split at hh
      · rename_i p hp; exact ⟨q, p, hn, by omega, hp, hh⟩
      · cases hh
    · obtain ⟨j, p, h2, h3, h4⟩ := ixArr_ok hh
      exact ⟨j, p, h2, by omega, h4⟩
def ixRun (P : Program) (S : AS) (id0 : Nat) (o : Oper) (κ : Eff → Option ρ) : Option ρ := match o.op with
  | .index t x i => match P.underlying t, S.ev x, S.ev i with
    | some (.array len e), .agg cs, .v (.int _ n) => match sizeB P e with
      | some sz => ixArr P e sz cs n (fun p => κ ⟨p, []⟩) len 0
      | none => none
    | _, _, _ => none
  | _ => none
def ixOn (P : Program) (S : AS) (o : Oper) : Bool := match o.op with
  | .index t x _ => match P.underlying t, S.ev x with
    | some (.array _ _), .agg _ => true
    | _, _ => false
  | _ => false
theorem ix_ok {κ : Eff → Option ρ} (h : ixRun P S id0 o κ = some r) : Sound P w0 N S id0 o κ r := by
  unfold ixRun at h
  split at h
  · rename_i t x i ho
    split at h
    · rename_i len e cs k n hu hx hi
      split at h
      · rename_i sz hs
        obtain ⟨j, p, hn, hj, hp, hk⟩ := ixArr_ok h
        refine SoundV.sound (κ := κ) ⟨_, hk, fun m a w hr => ?_⟩
        have h1 := hr.ev x
        rw [hx] at h1
        generalize hz : a.eval x = z at h1
        cases h1 with | agg h1 =>
        rename_i vs
        obtain ⟨v, hv, hrv⟩ := partB_ok h1 hp w
        refine ⟨v, run_of (s := Instr.index t (a.eval x) (a.eval i)) (by unfold execOp; simp only [ho]) ?_, hrv⟩
        rw [hz, ev_v hr hi]
        simp only [Instr.index, asIntOf, Sem.run_bind, run_underlying hu, Result.andThen_ok, Sem.run_pure]
        rw [if_pos (by omega)]
        simp only [Sem.run_bind, sizeB_ok hs, Result.andThen_ok, hn, Int.toNat_natCast]
        exact hv
      · cases h
    · cases h
  · cases h
def hkIx (P : Program) : Hook P := ⟨ixOn P, fun S id0 o κ => ixRun P S id0 o κ, fun _ h => ix_ok h⟩
mutual
theorem PV.sub_id : ∀ x : PV, x.sub (fun _ => none) (fun _ _ => none) = x
  | .own i => rfl
  | .ptr i off => rfl
  | .fn n caps => by simp only [PV.sub, subL_id caps]
  | .agg cs => by simp only [PV.sub, subL_id cs]
  | .tup vs => by simp only [PV.sub, subL_id vs]
  | .un => rfl
  | .v x => rfl
  | .row fr s l => rfl
  | .rptr fr s x off => rfl
  | .eptr i j sz off => rfl
  | .mp i => rfl
  | .ocut i j sz => rfl
  | .prow i o => rfl
  | .pcel i o => rfl
  | .rmap ks vs => by simp only [PV.sub, subL_id vs]
theorem subL_id : ∀ l : List PV, subL (fun _ => none) (fun _ _ => none) l = l
  | [] => rfl
  | x :: r => by simp only [subL, PV.sub_id x, subL_id r]
end
theorem ABlk.sub_id (b : ABlk) : b.sub (fun _ => none) (fun _ _ => none) = b := by
  cases b with
  | box T cs => simp only [ABlk.sub, subL_id]
  | _ => rfl
def ints64 : List PV → Option (List Int)
  | [] => some []
  | x :: r => match x with
    | .v (.int .i64 n) => match ints64 r with
      | some l => some (n :: l)
      | none => none
    | _ => none
theorem ints64_ok {m : Nm} {B0 : Nat} : ∀ {cs : List PV} {vs : List Value} {l : List Int}, ints64 cs = some l → RepVs m B0 w cs vs → vs = l.map (Value.int .i64)
  | [], vs, l, h, hv => by
    cases hv
    cases h
    rfl
  | x :: r, vs, l, h, hv => by
    cases hv with | cons h1 h2 =>
    unfold ints64 at h
    split at h
    · split at h
      · rename_i l' hl
        cases h
        cases h1
        rw [ints64_ok hl h2]
        rfl
      · cases h
    · cases h
def acutRun (P : Program) (S : AS) (id0 : Nat) (o : Oper) (κ : Eff → Option ρ) : Option ρ := match o.op with
  | .slice t x lo none none => match P.underlying t, S.ev x with
    | some (.array len e), .ptr i 0 => match sizeB P e, S.σ i with
      | some 1, .box _ cs => match ints64 cs with
        | some l => bif Nat.beq l.length len then match bound (lo.map S.ev) with
          | some none => κ ⟨.row false [.int .i64] l, [(i, .no)]⟩
          | some (some k) => bif decide (0 ≤ k) then bif decide (k ≤ (l.length : Int)) then κ ⟨.row false [.int .i64] (l.drop k.toNat), [(i, .no)]⟩ else none else none
          | none => none else none
        | none => none
      | _, _ => none
    | _, _ => none
  | _ => none
def acutOn (P : Program) (S : AS) (o : Oper) : Bool := match o.op with
  | .slice t x _ none none => match P.underlying t, S.ev x with
    | some (.array _ _), .ptr _ 0 => true
    | _, _ => false
  | _ => false
theorem acut_row {m : Nm} {B0 b : Nat} {l : List Int} {T : TypeId} (hb : w.heap[b]? = some (.cells (l.map (Value.int .i64)).toArray T (0, 0))) (k : Nat) (hk : k ≤ l.length) (A : Option Addr) (hA : k < l.length → A = some ⟨b, k, none⟩) (hF : m.F b) : RepV m B0 w (.row false [.int .i64] (l.drop k)) (.slice A (l.length - k) (l.length - k)) := by
  have hl : (l.drop k).length = l.length - k := List.length_drop
  rw [← hl]
  refine .row ?_
  simp only [SKIs]
  refine ⟨A, (l.drop k).length, rfl, Nat.le_refl _, fun i y hy => ?_⟩
  have hy : l[k + i]? = some (y : Int) := (List.getElem?_drop (xs := l) (i := k) (j := i)).symm.trans hy
  have hi : k + i < l.length := by
    have := (List.getElem?_eq_some_iff.1 hy).1
    exact this
  refine ⟨b, k, [.int .i64 y], hA (by omega), ⟨hF, fun h => by cases h⟩, rfl, fun j u hj => ?_, ⟨_, rfl, rfl⟩⟩
  match j, hj with
  | 0, hj =>
    cases hj
    rw [blk_cell hb]
    simp [hy]
    rfl
  | j + 1, hj => simp at hj
theorem acut_ok {κ : Eff → Option ρ} (h : acutRun P S id0 o κ = some r) : Sound P w0 N S id0 o κ r := by
  unfold acutRun at h
  split at h
  · rename_i t x lo ho
    split at h
    · rename_i len e i hu hx
      split at h
      · rename_i T cs hs hσ
        split at h
        · rename_i l hl
          rcases cond_some h with ⟨hlen, hm⟩ | ⟨_, h2⟩
          · clear h
            have hlen := Nat.eq_of_beq_eq_true hlen
            subst hlen
            have key : ∀ k : Nat, k ≤ l.length → (∀ m a w, Rep w0 N m S a w → ∃ A, (Instr.sliceAt t (.pointer (some ⟨m.b i, 0, none⟩)) (lo.map a.eval) none none).run P w = .ok (.slice A (l.length - k) (l.length - k)) w ∧ (k < l.length → A = some ⟨m.b i, k, none⟩)) → κ ⟨.row false [.int .i64] (l.drop k), [(i, .no)]⟩ = some r → Sound P w0 N S id0 o κ r := by
              intro k hk hrun hκ
              refine ⟨_, hκ, ?_⟩
              intro S' m a w hl' hf hr K Q hK
              have hr0 := hr.le hl'
              have h3 := hr0.ev x
              rw [hx] at h3
              generalize hz : a.eval x = z at h3
              cases h3
              have hbk := hr.heap.blk i
              have hσ' : S'.σ i = .box T cs := Le.blk hl' hσ (by simp)
              rw [hσ'] at hbk
              obtain ⟨b1, b2, vs, b3, b4⟩ := hbk
              have hvs := ints64_ok hl b3
              subst hvs
              obtain ⟨A, hA, hA2⟩ := hrun m a w hr0
              have h5 := (hr.sub (f := fun _ => none) (g := fun _ _ => none) (i := i) (F' := fun k => m.F k ∨ k = m.b i) (fun k h => .inl h) (fun k h => h.imp id (fun h => by rw [hσ']; exact h)) (fun j p v h => by cases h) (fun j off p v h => by cases h)).heap
              have e5 : (subS S' i (fun _ => none) (fun _ _ => none)).σ = updσ S'.σ [(i, .no)] := by
                funext j
                show (bif Nat.beq j i then ABlk.no else (S'.σ j).sub _ _) = bif Nat.beq j i then ABlk.no else S'.σ j
                rw [ABlk.sub_id]
              rw [e5] at h5
              have hrun' : (execOp a.eval o).run P w = .ok (.value (.slice A (l.length - k) (l.length - k))) w := run_of (s := Instr.sliceAt t (a.eval x) (lo.map a.eval) none none) (by unfold execOp; simp only [ho, Option.map_none]) (by rw [hz]; exact hA)
              unfold Oper.wp
              rw [hrun', Oper.upon_value]
              exact hK ⟨m.v, m.b, fun k => m.F k ∨ k = m.b i⟩ w _ ⟨fun _ _ => rfl, fun _ _ => rfl, fun k hk => ⟨.inl hk, rfl⟩⟩ h5 (acut_row b4 k hk A hA2 (.inr rfl))
            split at hm
            · rename_i hb
              refine key 0 (Nat.zero_le _) (fun m a w hr => ⟨some ⟨m.b i, 0, none⟩, ?_, fun _ => rfl⟩) hm
              obtain ⟨k1, hb1⟩ := bound_ok hr hb
              rw [hb1]
              simp only [Instr.sliceAt, Sem.run_bind, run_underlying hu, Result.andThen_ok, Option.map_none]
              simp [Instr.sureAddr, Instr.sliceBounds, Sem.run_bind, sizeB_ok hs, Addr.add]
            · rename_i k hb
              rcases cond_some hm with ⟨h0, hm⟩ | ⟨_, h2⟩
              · rcases cond_some hm with ⟨h1, hm⟩ | ⟨_, h2⟩
                · have h0 := of_decide_eq_true h0
                  have h1 := of_decide_eq_true h1
                  refine key k.toNat (by omega) (fun m a w hr => ?_) hm
                  obtain ⟨k1, hb1⟩ := bound_ok hr hb
                  rw [hb1]
                  have hle : k ≤ (l.length : Int) := h1
                  refine ⟨some (if l.length = k.toNat then ⟨m.b i, 0, none⟩ else ⟨m.b i, k.toNat, none⟩), ?_, fun hlt => by rw [if_neg (by omega)]⟩
                  simp only [Instr.sliceAt, Sem.run_bind, run_underlying hu, Result.andThen_ok, Option.map_some]
                  simp [Instr.sureAddr, Instr.sliceBounds, Instr.sliceBound, asIntOf, Sem.run_bind, sizeB_ok hs, Addr.add, h0, hle]
                  split
                  · rfl
                  · split
                    · rename_i h5
                      have h6 : k.toNat = 0 := by omega
                      rw [h6]
                    · rfl
                · cases h2
              · cases h2
            · cases hm
          · cases h2
        · cases h
      · cases h
    · cases h
  · cases h
def mlenRun (P : Program) (S : AS) (id0 : Nat) (o : Oper) (κ : Eff → Option ρ) : Option ρ := match o.op with
  | .call c => match c.callee, c.args.toList with
    | .builtin .len, [x] => match c.argTypes[0]?, S.ev x with
      | some t, .mp i => match P.underlying t, S.σ i with
        | some (.map _ _), .mset l => κ ⟨.v (.int .i64 (l.length : Int)), []⟩
        | _, _ => none
      | _, _ => none
    | _, _ => none
  | _ => none
def mlenOn (P : Program) (S : AS) (o : Oper) : Bool := match o.op with
  | .call c => match c.callee, c.args.toList with
    | .builtin .len, [x] => match S.ev x with
      | .mp _ => true
      | _ => false
    | _, _ => false
  | _ => false
theorem mlen_ok {κ : Eff → Option ρ} (h : mlenRun P S id0 o κ = some r) : Sound P w0 N S id0 o κ r := by
  unfold mlenRun at h
  split at h
  · rename_i c ho
    obtain ⟨callee, args, ts⟩ := c
    split at h
    · rename_i x hc hx
      have hc : callee = .builtin .len := hc
      have hx' : args = #[x] := by apply Array.ext'; exact hx
      subst hc hx'
      split at h
      · rename_i t i ht hxv
        have ht : ts[0]? = some t := ht
        split at h
        · rename_i kt vt l hu hσ
          refine SoundV.sound (κ := κ) ⟨_, h, fun m a w hr => ⟨_, ?_, .v⟩⟩
          have h1 := hr.ev x
          rw [hxv] at h1
          generalize hz : a.eval x = z at h1
          cases h1
          have hb := hr.heap.blk i
          rw [hσ] at hb
          obtain ⟨b1, b2, es, cl, b3, b4⟩ := hb
          have hlen : es.size = l.length := by
            have := congrArg List.length b4
            simpa using this
          unfold execOp
          simp only [ho]
          simp [resolve, invoke, builtin, Builtin.len_, ht, hz, Sem.run_bind, run_underlying hu, goInt, MapKept.run_getObj_map b3, hlen]
        · cases h
      · cases h
    · cases h
  · cases h
def hkMlen (P : Program) : Hook P := ⟨mlenOn P, fun S id0 o κ => mlenRun P S id0 o κ, fun _ h => mlen_ok h⟩
def hkAcut (P : Program) : Hook P := ⟨acutOn P, fun S id0 o κ => acutRun P S id0 o κ, fun _ h => acut_ok h⟩
end
end Ex
namespace Ex
open Go
set_option maxHeartbeats 0
abbrev GBooked := Int × Int × Int × Int
abbrev lGBooked : List LK := [.sc (.int .i64), .sc (.int .i64), .sc (.int .i64), .sc (.int .i64)]
abbrev toGBooked : List TL := [.sc (.int .i64), .sc (.int .i64), .sc (.int .i64), .sc (.int .i64)]
abbrev kGBooked : List SK := [.int .i64, .int .i64, .int .i64, .int .i64]
abbrev T48 := Int × Int × Int
abbrev lT48 : List LK := [.sc (.int .i64), .sc (.int .i64), .sc (.int .i64)]
abbrev toT48 : List TL := [.sc (.int .i64), .sc (.int .i64), .sc (.int .i64)]
abbrev trT48 : List TL := [.sc (.int .i64), .sc (.int .i64), .sc (.int .i64)]
def ledger_at_1 (k : Nat) : (GBooked × Int) → Option (Int) := fun (b, id) =>
  (cmp_Compare_int k (b.1, id)).bind fun o_1 =>
  some (o_1)
noncomputable def ledger_at_1_e := entOf (P := Tryz.prog) (A := [.agg lGBooked, .one (.sc (.int .i64))]) (R := [.one (.sc (.int .i64))]) Tryz.f121 ledger_at_1 (fun k => ⟨[cmp_Compare_int_e k], [], [hkStr Tryz.prog]⟩) [] Tryz.func121 (by kernel_rfl) (by kernel_rfl) trivial (fun k x => by kernel_rfl) fun _ _ => by kernel_rfl
def BinarySearchFunc_B_L0 : Nat → ((List GBooked) × Int × Unit × Int × Int × Int) → Option (((List GBooked) × Int × Unit × Int × Int) ⊕ (Int × Bool))
  | 0, _ => none
  | k + 1, (x0, target, cmp, n, i, j) =>
  bif decide (i < j) then
  bif decide (0 ≤ w64 (Int.fdiv (IntKind.wrap IntKind.u64 (w64 (i + j))) (2 ^ min (Int.toNat 1) 64))) then
   bif decide (w64 (Int.fdiv (IntKind.wrap IntKind.u64 (w64 (i + j))) (2 ^ min (Int.toNat 1) 64)) < Int.ofNat (List.length x0)) then
    (ledger_at_1 k (List.getD x0 (Int.toNat (w64 (Int.fdiv (IntKind.wrap IntKind.u64 (w64 (i + j))) (2 ^ min (Int.toNat 1) 64)))) (0, 0, 0, 0), target)).bind fun o_4 =>
     bif decide (o_4 < 0) then
      BinarySearchFunc_B_L0 k (x0, target, (), n, w64 (w64 (Int.fdiv (IntKind.wrap IntKind.u64 (w64 (i + j))) (2 ^ min (Int.toNat 1) 64)) + 1), j)
     else
      BinarySearchFunc_B_L0 k (x0, target, (), n, i, w64 (Int.fdiv (IntKind.wrap IntKind.u64 (w64 (i + j))) (2 ^ min (Int.toNat 1) 64)))
   else
    none
  else
   none
 else
  some (Sum.inl (x0, target, (), n, i))
def BinarySearchFunc_B (k : Nat) : ((List GBooked) × Int × Unit) → Option (Int × Bool) := fun (x0, target, cmp) =>
  (BinarySearchFunc_B_L0 k (x0, target, (), Int.ofNat (List.length x0), 0, Int.ofNat (List.length x0))).bind fun o_1 =>
  match o_1 with
  | .inl o_2 =>
   bif decide (o_2.2.2.2.2 < o_2.2.2.2.1) then
    bif decide (0 ≤ o_2.2.2.2.2) then
     bif decide (o_2.2.2.2.2 < Int.ofNat (List.length o_2.1)) then
      (ledger_at_1 k (List.getD o_2.1 (Int.toNat o_2.2.2.2.2) (0, 0, 0, 0), o_2.2.1)).bind fun o_6 =>
       bif decide (o_6 = 0) then
        some ((o_2.2.2.2.2, true))
       else
        some ((o_2.2.2.2.2, false))
     else
      none
    else
     none
   else
    some ((o_2.2.2.2.2, false))
  | .inr o_2 =>
   some (o_2)
noncomputable def BinarySearchFunc_B_e := entOf (P := Tryz.prog) (A := [.one (.row 50 kGBooked), .one (.sc (.int .i64)), .one (.fnc 121 [])]) (R := [.one (.sc (.int .i64)), .one (.sc (.bool))]) Tryz.f120 BinarySearchFunc_B (fun k => ⟨[ledger_at_1_e k], [], [hkStr Tryz.prog]⟩) [some ⟨0, [(0, .one (.ro kGBooked)), (1, .one (.sc (.int .i64))), (2, .fnp 121 []), (8, .one (.sc (.int .i64))), (9, .one (.sc (.int .i64))), (10, .one (.sc (.int .i64)))], [(0, .one (.ro kGBooked)), (1, .one (.sc (.int .i64))), (2, .fnp 121 []), (8, .one (.sc (.int .i64))), (9, .one (.sc (.int .i64)))], BinarySearchFunc_B_L0⟩] Tryz.func120 (by kernel_rfl) (by kernel_rfl) ⟨⟨fun _ => rfl, fun k x => by kernel_rfl⟩, trivial⟩ (fun k x => by kernel_rfl) fun _ _ => by kernel_rfl
def ledger_at (k : Nat) : ((List GBooked) × Int) → Option (Int × Bool) := fun (l, id) =>
  (BinarySearchFunc_B k (l, id, ())).bind fun o_1 =>
  bif o_1.2 then
   some ((o_1.1, true))
  else
   some ((o_1.1, false))
noncomputable def ledger_at_e := entOf (P := Tryz.prog) (A := [.one (.row 50 kGBooked), .one (.sc (.int .i64))]) (R := [.one (.sc (.int .i64)), .one (.sc (.bool))]) Tryz.f69 ledger_at (fun k => ⟨[BinarySearchFunc_B_e k, ledger_at_1_e k], [], [hkStr Tryz.prog]⟩) [] Tryz.func69 (by kernel_rfl) (by kernel_rfl) trivial (fun k x => by kernel_rfl) fun _ _ => by kernel_rfl
def ledger_class (k : Nat) : Int → Option (Bool) := fun (n) =>
  bif decide (0 ≤ n) then
  bif decide (n < 3) then
   some (true)
  else
   some (false)
 else
  some (false)
noncomputable def ledger_class_e := entOf (P := Tryz.prog) (A := [.one (.sc (.int .i64))]) (R := [.one (.sc (.bool))]) Tryz.f59 ledger_class (fun k => ⟨[], [], [hkStr Tryz.prog]⟩) [] Tryz.func59 (by kernel_rfl) (by kernel_rfl) trivial (fun k x => by kernel_rfl) fun _ _ => by kernel_rfl
def ledger_Used (k : Nat) : ((List GBooked) × Int) → Option (T48) := fun (l, id) =>
  (ledger_at k (l, id)).bind fun o_1 =>
  bif o_1.2 then
   bif decide (0 ≤ o_1.1) then
    bif decide (o_1.1 < Int.ofNat (List.length l)) then
     some ((List.getD l (Int.toNat o_1.1) (0, 0, 0, 0)).2)
    else
     none
   else
    none
  else
   some ((0, 0, 0))
noncomputable def ledger_Used_e := entOf (P := Tryz.prog) (A := [.one (.row 50 kGBooked), .one (.sc (.int .i64))]) (R := [.agg lT48]) Tryz.f28 ledger_Used (fun k => ⟨[ledger_at_e k], [], [hkStr Tryz.prog]⟩) [] Tryz.func28 (by kernel_rfl) (by kernel_rfl) trivial (fun k x => by kernel_rfl) fun _ _ => by kernel_rfl
def ledger_Backlog_L0 : Nat → (Int × (List Int) × Int × Int) → Option ((Int) ⊕ (Int))
  | 0, _ => none
  | k + 1, (sum, t17, t18, t19) =>
  bif decide (t19 < t18) then
  bif decide (0 ≤ t19) then
   bif decide (t19 < Int.ofNat (List.length t17)) then
    ledger_Backlog_L0 k (w64 (mn sum (w64 (4611686018427387904 - List.getD t17 (Int.toNat t19) 0)) + List.getD t17 (Int.toNat t19) 0), t17, t18, w64 (t19 + 1))
   else
    none
  else
   none
 else
  some (Sum.inl sum)
def ledger_Backlog (k : Nat) : ((List GBooked) × Int × Int) → Option (Int) := fun (l, id, k2) =>
  (ledger_class k k2).bind fun o_1 =>
  bif o_1 then
   (ledger_Used k (l, id)).bind fun o_3 =>
    bif decide (0 ≤ k2) then
     bif decide (k2 ≤ Int.ofNat (List.length [o_3.1, o_3.2.1, o_3.2.2])) then
      (ledger_Backlog_L0 k (0, List.drop (Int.toNat k2) [o_3.1, o_3.2.1, o_3.2.2], Int.ofNat (List.length (List.drop (Int.toNat k2) [o_3.1, o_3.2.1, o_3.2.2])), 0)).bind fun o_6 =>
       match o_6 with
       | .inl o_7 =>
        some (o_7)
       | .inr o_7 =>
        some (o_7)
     else
      none
    else
     none
  else
   some (0)
noncomputable def ledger_Backlog_e := entOf (P := Tryz.prog) (A := [.one (.row 50 kGBooked), .one (.sc (.int .i64)), .one (.sc (.int .i64))]) (R := [.one (.sc (.int .i64))]) Tryz.f60 ledger_Backlog (fun k => ⟨[ledger_Used_e k, ledger_class_e k], [], [hkAcut Tryz.prog, hkStr Tryz.prog]⟩) [some ⟨0, [(6, .one (.sc (.int .i64))), (17, .one (.ro [.int .i64])), (18, .one (.sc (.int .i64))), (19, .one (.sc (.int .i64)))], [(6, .one (.sc (.int .i64)))], ledger_Backlog_L0⟩] Tryz.func60 (by kernel_rfl) (by kernel_rfl) ⟨⟨fun _ => rfl, fun k x => by kernel_rfl⟩, trivial⟩ (fun k x => by kernel_rfl) fun _ _ => by kernel_rfl
def check_Volume (k : Nat) : GContact → Option (Int) := fun (c0) =>
  (check_Contact k c0).bind fun o_1 =>
  bif o_1 then
   some (w64 (w64 (c0.2.2.2.2.1 - c0.2.2.2.1) * c0.2.2.2.2.2))
  else
   some (0)
noncomputable def check_Volume_e := entOf (P := Tryz.prog) (A := [.agg lGContact]) (R := [.one (.sc (.int .i64))]) Tryz.f29 check_Volume (fun k => ⟨[check_Contact_e k], [], [hkStr Tryz.prog]⟩) [] Tryz.func29 (by kernel_rfl) (by kernel_rfl) trivial (fun k x => by kernel_rfl) fun _ _ => by kernel_rfl
def ledger_Room (k : Nat) : ((List GBooked) × GContact × Int) → Option (Int) := fun (l, c1, k2) =>
  (ledger_class k k2).bind fun o_1 =>
  bif o_1 then
   (check_Volume k c1).bind fun o_3 =>
    (ledger_Backlog k (l, c1.1, k2)).bind fun o_4 =>
     some (mx (w64 (o_3 - o_4)) 0)
  else
   some (0)
noncomputable def ledger_Room_e := entOf (P := Tryz.prog) (A := [.one (.row 50 kGBooked), .agg lGContact, .one (.sc (.int .i64))]) (R := [.one (.sc (.int .i64))]) Tryz.f21 ledger_Room (fun k => ⟨[check_Volume_e k, ledger_class_e k, ledger_Backlog_e k], [], [hkStr Tryz.prog]⟩) [] Tryz.func21 (by kernel_rfl) (by kernel_rfl) trivial (fun k x => by kernel_rfl) fun _ _ => by kernel_rfl
noncomputable def slices_Clone_api_Booked_api_Booked_c : Code := Tryz.f99.body.getD .skip
def slices_Clone_api_Booked_api_Booked (k : Nat) : (List GBooked) → Option (List GBooked) := fun s =>
  bif decide ((0 + List.length s) * 32 ≤ 140737488355328) then
  some (s)
 else
  none
noncomputable def slices_Clone_api_Booked_api_Booked_X : Cx Tryz.prog [.one (.row 50 kGBooked)] := ⟨fun _ => ⟨[], [], []⟩, Tryz.f99.ntmps, Tryz.f99.results, []⟩
theorem slices_Clone_api_Booked_api_Booked_eq (k : Nat) (x : List GBooked) : slices_Clone_api_Booked_api_Booked k x = runAt slices_Clone_api_Booked_api_Booked_X k (restC slices_Clone_api_Booked_api_Booked_c) (cloneS kGBooked x) := by kernel_rfl
noncomputable def slices_Clone_api_Booked_api_Booked_e (k : Nat) : Ent Tryz.prog := ⟨99, [.one (.row 50 kGBooked)], [.one (.row 50 kGBooked)], slices_Clone_api_Booked_api_Booked k, clone_calls (sT := 26) (bT := 4) (e := 50) (rest := restC slices_Clone_api_Booked_api_Booked_c) (X := slices_Clone_api_Booked_api_Booked_X) (k := k) Tryz.func99 (by kernel_rfl) (by kernel_rfl) (by kernel_rfl) (by kernel_rfl) rfl (by kernel_rfl) (by kernel_rfl) (by kernel_rfl) (by kernel_rfl) (by kernel_rfl) (fun l => slices_Clone_api_Booked_api_Booked_eq k l), fun _ _ => by kernel_rfl⟩
def slices_Equal_api_Booked_api_Booked_L0 : Nat → ((List GBooked) × (List GBooked) × Int × Int) → Option ((Unit) ⊕ (Bool))
  | 0, _ => none
  | k + 1, (s1, s2, t12, t13) =>
  bif decide (t13 < t12) then
  bif decide (0 ≤ t13) then
   bif decide (t13 < Int.ofNat (List.length s1)) then
    bif decide (0 ≤ t13) then
     bif decide (t13 < Int.ofNat (List.length s2)) then
      bif !((List.getD s1 (Int.toNat t13) (0, 0, 0, 0)).1 == (List.getD s2 (Int.toNat t13) (0, 0, 0, 0)).1 && ((List.getD s1 (Int.toNat t13) (0, 0, 0, 0)).2.1 == (List.getD s2 (Int.toNat t13) (0, 0, 0, 0)).2.1 && ((List.getD s1 (Int.toNat t13) (0, 0, 0, 0)).2.2.1 == (List.getD s2 (Int.toNat t13) (0, 0, 0, 0)).2.2.1 && (List.getD s1 (Int.toNat t13) (0, 0, 0, 0)).2.2.2 == (List.getD s2 (Int.toNat t13) (0, 0, 0, 0)).2.2.2))) then
       some (Sum.inr false)
      else
       slices_Equal_api_Booked_api_Booked_L0 k (s1, s2, t12, w64 (t13 + 1))
     else
      none
    else
     none
   else
    none
  else
   none
 else
  some (Sum.inl ())
def slices_Equal_api_Booked_api_Booked (k : Nat) : ((List GBooked) × (List GBooked)) → Option (Bool) := fun (s1, s2) =>
  bif !decide (Int.ofNat (List.length s1) = Int.ofNat (List.length s2)) then
  some (false)
 else
  (slices_Equal_api_Booked_api_Booked_L0 k (s1, s2, Int.ofNat (List.length s1), 0)).bind fun o_2 =>
   match o_2 with
   | .inl o_3 =>
    some (true)
   | .inr o_3 =>
    some (o_3)
noncomputable def slices_Equal_api_Booked_api_Booked_e := entOf (P := Tryz.prog) (A := [.one (.row 50 kGBooked), .one (.row 50 kGBooked)]) (R := [.one (.sc (.bool))]) Tryz.f73 slices_Equal_api_Booked_api_Booked (fun k => ⟨[], [], [hkStr Tryz.prog]⟩) [some ⟨0, [(0, .one (.ro kGBooked)), (1, .one (.ro kGBooked)), (12, .one (.sc (.int .i64))), (13, .one (.sc (.int .i64)))], [], slices_Equal_api_Booked_api_Booked_L0⟩] Tryz.func73 (by kernel_rfl) (by kernel_rfl) ⟨⟨fun _ => rfl, fun k x => by kernel_rfl⟩, trivial⟩ (fun k x => by kernel_rfl) fun _ _ => by kernel_rfl
def ledger_Same (k : Nat) : ((List GBooked) × (List GBooked)) → Option (Bool) := fun (a, b) =>
  (slices_Equal_api_Booked_api_Booked k (a, b)).bind fun o_1 =>
  bif o_1 then
   some (true)
  else
   some (false)
noncomputable def ledger_Same_e := entOf (P := Tryz.prog) (A := [.one (.row 50 kGBooked), .one (.row 50 kGBooked)]) (R := [.one (.sc (.bool))]) Tryz.f32 ledger_Same (fun k => ⟨[slices_Equal_api_Booked_api_Booked_e k], [], [hkStr Tryz.prog]⟩) [] Tryz.func32 (by kernel_rfl) (by kernel_rfl) trivial (fun k x => by kernel_rfl) fun _ _ => by kernel_rfl
def ledger_Right_L1 : Nat → ((List GBooked) × (List GBooked) × Int × Int × T48 × Int) → Option (((List GBooked) × (List GBooked) × Int × Int) ⊕ (Bool))
  | 0, _ => none
  | k + 1, (l, t7, t8, t9, t44, t45) =>
  bif decide (t45 < 3) then
  bif decide (t45 = Int.ofNat 0) then
   bif decide (t44.1 < 0) then
    some (Sum.inr false)
   else
    bif decide (4611686018427387904 < t44.1) then
     some (Sum.inr false)
    else
     ledger_Right_L1 k (l, t7, t8, t9, t44, w64 (t45 + 1))
  else
   bif decide (t45 = Int.ofNat (0 + 1)) then
    bif decide (t44.2.1 < 0) then
     some (Sum.inr false)
    else
     bif decide (4611686018427387904 < t44.2.1) then
      some (Sum.inr false)
     else
      ledger_Right_L1 k (l, t7, t8, t9, t44, w64 (t45 + 1))
   else
    bif decide (t45 = Int.ofNat (0 + 1 + 1)) then
     bif decide (t44.2.2 < 0) then
      some (Sum.inr false)
     else
      bif decide (4611686018427387904 < t44.2.2) then
       some (Sum.inr false)
      else
       ledger_Right_L1 k (l, t7, t8, t9, t44, w64 (t45 + 1))
    else
     none
 else
  some (Sum.inl (l, t7, t8, t9))
def ledger_Right_L0 : Nat → ((List GBooked) × (List GBooked) × Int × Int) → Option ((Unit) ⊕ (Bool))
  | 0, _ => none
  | k + 1, (l, t7, t8, t9) =>
  bif decide (t9 < t8) then
  bif decide (0 ≤ t9) then
   bif decide (t9 < Int.ofNat (List.length t7)) then
    bif decide ((List.getD t7 (Int.toNat t9) (0, 0, 0, 0)).1 < 1) then
     some (Sum.inr false)
    else
     bif decide (1048576 < (List.getD t7 (Int.toNat t9) (0, 0, 0, 0)).1) then
      some (Sum.inr false)
     else
      bif decide (0 < t9) then
       bif decide (0 ≤ w64 (t9 - 1)) then
        bif decide (w64 (t9 - 1) < Int.ofNat (List.length l)) then
         bif decide ((List.getD t7 (Int.toNat t9) (0, 0, 0, 0)).1 ≤ (List.getD l (Int.toNat (w64 (t9 - 1))) (0, 0, 0, 0)).1) then
          some (Sum.inr false)
         else
          bif (List.getD t7 (Int.toNat t9) (0, 0, 0, 0)).2.1 == 0 && ((List.getD t7 (Int.toNat t9) (0, 0, 0, 0)).2.2.1 == 0 && (List.getD t7 (Int.toNat t9) (0, 0, 0, 0)).2.2.2 == 0) then
           some (Sum.inr false)
          else
           (ledger_Right_L1 k (l, t7, t8, t9, (List.getD t7 (Int.toNat t9) (0, 0, 0, 0)).2, 0)).bind fun o_11 =>
            match o_11 with
            | .inl o_12 =>
             ledger_Right_L0 k (o_12.1, o_12.2.1, o_12.2.2.1, w64 (o_12.2.2.2 + 1))
            | .inr o_12 =>
             some (Sum.inr o_12)
        else
         none
       else
        none
      else
       bif (List.getD t7 (Int.toNat t9) (0, 0, 0, 0)).2.1 == 0 && ((List.getD t7 (Int.toNat t9) (0, 0, 0, 0)).2.2.1 == 0 && (List.getD t7 (Int.toNat t9) (0, 0, 0, 0)).2.2.2 == 0) then
        some (Sum.inr false)
       else
        (ledger_Right_L1 k (l, t7, t8, t9, (List.getD t7 (Int.toNat t9) (0, 0, 0, 0)).2, 0)).bind fun o_8 =>
         match o_8 with
         | .inl o_9 =>
          ledger_Right_L0 k (o_9.1, o_9.2.1, o_9.2.2.1, w64 (o_9.2.2.2 + 1))
         | .inr o_9 =>
          some (Sum.inr o_9)
   else
    none
  else
   none
 else
  some (Sum.inl ())
def ledger_Right (k : Nat) : (List GBooked) → Option (Bool) := fun (l) =>
  (ledger_Right_L0 k (l, l, Int.ofNat (List.length l), 0)).bind fun o_1 =>
  match o_1 with
  | .inl o_2 =>
   some (true)
  | .inr o_2 =>
   some (o_2)
noncomputable def ledger_Right_e := entOf (P := Tryz.prog) (A := [.one (.row 50 kGBooked)]) (R := [.one (.sc (.bool))]) Tryz.f37 ledger_Right (fun k => ⟨[], [], [hkIx Tryz.prog, hkStr Tryz.prog]⟩) [some ⟨0, [(0, .one (.ro kGBooked)), (7, .one (.ro kGBooked)), (8, .one (.sc (.int .i64))), (9, .one (.sc (.int .i64)))], [], ledger_Right_L0⟩, some ⟨2, [(0, .one (.ro kGBooked)), (7, .one (.ro kGBooked)), (8, .one (.sc (.int .i64))), (9, .one (.sc (.int .i64))), (44, .agg toT48), (45, .one (.sc (.int .i64)))], [(0, .one (.ro kGBooked)), (7, .one (.ro kGBooked)), (8, .one (.sc (.int .i64))), (9, .one (.sc (.int .i64)))], ledger_Right_L1⟩] Tryz.func37 (by kernel_rfl) (by kernel_rfl) ⟨⟨fun _ => rfl, fun k x => by kernel_rfl⟩, ⟨⟨fun _ => rfl, fun k x => by kernel_rfl⟩, trivial⟩⟩ (fun k x => by kernel_rfl) fun _ _ => by kernel_rfl
def slices_Index_int_int_L0 : Nat → ((List Int) × Int × Int × Int) → Option ((Unit) ⊕ (Int))
  | 0, _ => none
  | k + 1, (s, v, t7, t8) =>
  bif decide (t8 < t7) then
  bif decide (0 ≤ t8) then
   bif decide (t8 < Int.ofNat (List.length s)) then
    bif decide (v = List.getD s (Int.toNat t8) 0) then
     some (Sum.inr t8)
    else
     slices_Index_int_int_L0 k (s, v, t7, w64 (t8 + 1))
   else
    none
  else
   none
 else
  some (Sum.inl ())
def slices_Index_int_int (k : Nat) : ((List Int) × Int) → Option (Int) := fun (s, v) =>
  (slices_Index_int_int_L0 k (s, v, Int.ofNat (List.length s), 0)).bind fun o_1 =>
  match o_1 with
  | .inl o_2 =>
   some (-1)
  | .inr o_2 =>
   some (o_2)
noncomputable def slices_Index_int_int_e := entOf (P := Tryz.prog) (A := [.one (.row 3 [.int .i64]), .one (.sc (.int .i64))]) (R := [.one (.sc (.int .i64))]) Tryz.f178 slices_Index_int_int (fun k => ⟨[], [], [hkStr Tryz.prog]⟩) [some ⟨0, [(0, .one (.ro [.int .i64])), (1, .one (.sc (.int .i64))), (7, .one (.sc (.int .i64))), (8, .one (.sc (.int .i64)))], [], slices_Index_int_int_L0⟩] Tryz.func178 (by kernel_rfl) (by kernel_rfl) ⟨⟨fun _ => rfl, fun k x => by kernel_rfl⟩, trivial⟩ (fun k x => by kernel_rfl) fun _ _ => by kernel_rfl
def slices_Contains_int_int (k : Nat) : ((List Int) × Int) → Option (Bool) := fun (s, v) =>
  (slices_Index_int_int k (s, v)).bind fun o_1 =>
  bif decide (0 ≤ o_1) then
   some (true)
  else
   some (false)
noncomputable def slices_Contains_int_int_e := entOf (P := Tryz.prog) (A := [.one (.row 3 [.int .i64]), .one (.sc (.int .i64))]) (R := [.one (.sc (.bool))]) Tryz.f119 slices_Contains_int_int (fun k => ⟨[slices_Index_int_int_e k], [], [hkStr Tryz.prog]⟩) [] Tryz.func119 (by kernel_rfl) (by kernel_rfl) trivial (fun k x => by kernel_rfl) fun _ _ => by kernel_rfl
def ledger_Drop_1 (k : Nat) : (GBooked × (List Int)) → Option (Bool) := fun (b, t1) =>
  (slices_Contains_int_int k (t1, b.1)).bind fun o_1 =>
  bif o_1 then
   some (true)
  else
   some (false)
noncomputable def ledger_Drop_1_e := entOf (P := Tryz.prog) (A := [.agg lGBooked, .one (.ptr [.row [.int .i64]])]) (R := [.one (.sc (.bool))]) Tryz.f118 ledger_Drop_1 (fun k => ⟨[slices_Contains_int_int_e k], [], [hkStr Tryz.prog]⟩) [] Tryz.func118 (by kernel_rfl) (by kernel_rfl) trivial (fun k x => by kernel_rfl) fun _ _ => by kernel_rfl
def IndexFuncB_dr_L0 : Nat → ((List GBooked) × (List Int) × Int × Int) → Option ((Unit) ⊕ (Int))
  | 0, _ => none
  | k + 1, (s, f, t7, t8) =>
  bif decide (t8 < t7) then
  bif decide (0 ≤ t8) then
   bif decide (t8 < Int.ofNat (List.length s)) then
    (ledger_Drop_1 k (List.getD s (Int.toNat t8) (0, 0, 0, 0), f)).bind fun o_4 =>
     bif o_4 then
      some (Sum.inr t8)
     else
      IndexFuncB_dr_L0 k (s, f, t7, w64 (t8 + 1))
   else
    none
  else
   none
 else
  some (Sum.inl ())
def IndexFuncB_dr (k : Nat) : ((List GBooked) × (List Int)) → Option (Int) := fun (s, f) =>
  (IndexFuncB_dr_L0 k (s, f, Int.ofNat (List.length s), 0)).bind fun o_1 =>
  match o_1 with
  | .inl o_2 =>
   some (-1)
  | .inr o_2 =>
   some (o_2)
noncomputable def IndexFuncB_dr_e := entOf (P := Tryz.prog) (A := [.one (.row 50 kGBooked), .one (.fnc 118 [[.row [.int .i64]]])]) (R := [.one (.sc (.int .i64))]) Tryz.f82 IndexFuncB_dr (fun k => ⟨[ledger_Drop_1_e k], [], [hkStr Tryz.prog]⟩) [some ⟨0, [(0, .one (.ro kGBooked)), (1, .fnp 118 [[.row [.int .i64]]]), (7, .one (.sc (.int .i64))), (8, .one (.sc (.int .i64)))], [], IndexFuncB_dr_L0⟩] Tryz.func82 (by kernel_rfl) (by kernel_rfl) ⟨⟨fun _ => rfl, fun k x => by kernel_rfl⟩, trivial⟩ (fun k x => by kernel_rfl) fun _ _ => by kernel_rfl
noncomputable def DeleteFuncB_dr_c : Code := Tryz.f117.body.getD .skip
def DeleteFuncB_dr_L0 : Nat → ((List GBooked) × (List Int) × Int × Int) → Option (((List GBooked) × Int) ⊕ (List GBooked))
  | 0, _ => none
  | k + 1, (s, del, i, j) =>
  bif decide (j < Int.ofNat (List.length s)) then
  bif decide (0 ≤ j) then
   bif decide (j < Int.ofNat (List.length s)) then
    (ledger_Drop_1 k (List.getD s (Int.toNat j) (0, 0, 0, 0), del)).bind fun o_4 =>
     bif o_4 then
      DeleteFuncB_dr_L0 k (s, del, i, w64 (j + 1))
     else
      bif decide (0 ≤ i) then
       bif decide (i < Int.ofNat (List.length s)) then
        DeleteFuncB_dr_L0 k (List.set s (Int.toNat i) (List.getD s (Int.toNat j) (0, 0, 0, 0)), del, w64 (i + 1), w64 (j + 1))
       else
        none
      else
       none
   else
    none
  else
   none
 else
  some (Sum.inl (s, i))
def DeleteFuncB_dr (k : Nat) : List GBooked → (List Int) → Option (List GBooked) := fun s (del) =>
  (IndexFuncB_dr k (s, del)).bind fun o_1 =>
  bif decide (o_1 = -1) then
   some (s)
  else
   (DeleteFuncB_dr_L0 k (s, del, o_1, w64 (o_1 + 1))).bind fun o_3 =>
    match o_3 with
    | .inl o_4 =>
     bif decide (0 ≤ o_4.2) then
      bif decide (o_4.2 ≤ Int.ofNat (List.length o_4.1)) then
       bif decide (0 ≤ o_4.2) then
        bif decide (o_4.2 ≤ Int.ofNat (List.length (clearL o_4.1 (Int.toNat o_4.2) (0, 0, 0, 0)))) then
         some (List.take (Int.toNat o_4.2) (clearL o_4.1 (Int.toNat o_4.2) (0, 0, 0, 0)))
        else
         none
       else
        none
      else
       none
     else
      none
    | .inr o_4 =>
     some (o_4)
noncomputable def DeleteFuncB_dr_X : Cx Tryz.prog [.one (.row 50 kGBooked)] := ⟨fun k => ⟨[IndexFuncB_dr_e k, ledger_Drop_1_e k], [], [hkStr Tryz.prog]⟩, Tryz.f117.ntmps, Tryz.f117.results, [some ⟨0, [(0, .one (.own 50 kGBooked)), (1, .fnp 118 [[.row [.int .i64]]]), (5, .one (.sc (.int .i64))), (6, .one (.sc (.int .i64)))], [(0, .one (.own 50 kGBooked)), (5, .one (.sc (.int .i64)))], DeleteFuncB_dr_L0⟩]⟩
theorem DeleteFuncB_dr_L0_eq (k : Nat) (x : (List GBooked) × (List Int) × Int × Int) : DeleteFuncB_dr_L0 (k + 1) x = roundF DeleteFuncB_dr_X k ⟨0, [(0, .one (.own 50 kGBooked)), (1, .fnp 118 [[.row [.int .i64]]]), (5, .one (.sc (.int .i64))), (6, .one (.sc (.int .i64)))], [(0, .one (.own 50 kGBooked)), (5, .one (.sc (.int .i64)))], DeleteFuncB_dr_L0⟩ 0 (lp DeleteFuncB_dr_c 0) x := by kernel_rfl
theorem DeleteFuncB_dr_eq (k : Nat) (l : List GBooked) (x : List Int) : DeleteFuncB_dr k l x = runM (T := 50) (s := kGBooked) DeleteFuncB_dr_X k DeleteFuncB_dr_c [.one (.fnc 118 [[.row [.int .i64]]])] l x := by kernel_rfl
noncomputable def DeleteFuncB_dr_m (k : Nat) : EntM Tryz.prog := ⟨117, 50, kGBooked, [.one (.fnc 118 [[.row [.int .i64]]])], false, DeleteFuncB_dr k, mut_of (X := DeleteFuncB_dr_X) (k := k) (c := DeleteFuncB_dr_c) (by kernel_rfl) Tryz.func117 (by kernel_rfl) (by kernel_rfl) (by kernel_rfl) (LoopEqs.all (show LoopEqs DeleteFuncB_dr_X DeleteFuncB_dr_c DeleteFuncB_dr_X.L 0 from ⟨⟨fun _ => rfl, fun k x => DeleteFuncB_dr_L0_eq k x⟩, trivial⟩)) (fun l x => DeleteFuncB_dr_eq k l x), fun _ _ => by kernel_rfl⟩
def ledger_Drop (k : Nat) : ((List GBooked) × (List Int)) → Option (List GBooked) := fun (l, ids) =>
  (slices_Clone_api_Booked_api_Booked k l).bind fun o_1 =>
  (DeleteFuncB_dr k o_1 ids).bind fun o_2 =>
   some (o_2)
noncomputable def ledger_Drop_e := entOf (P := Tryz.prog) (A := [.one (.row 50 kGBooked), .one (.row 3 [.int .i64])]) (R := [.one (.row 50 kGBooked)]) Tryz.f68 ledger_Drop (fun k => ⟨[slices_Clone_api_Booked_api_Booked_e k], [DeleteFuncB_dr_m k], [hkStr Tryz.prog]⟩) [] Tryz.func68 (by kernel_rfl) (by kernel_rfl) trivial (fun k x => by kernel_rfl) fun _ _ => by kernel_rfl
def rf03_Volume (k : Nat) : GContact → Option (Int) := fun (c0) =>
  (rf03_Contact k c0).bind fun o_1 =>
  bif o_1 then
   some (w64 (c0.2.2.2.2.2 * w64 (c0.2.2.2.2.1 - c0.2.2.2.1)))
  else
   some (0)
noncomputable def rf03_Volume_e := entOf (P := Tryz.prog) (A := [.agg lGContact]) (R := [.one (.sc (.int .i64))]) Tryz.f85 rf03_Volume (fun k => ⟨[rf03_Contact_e k], [], [hkStr Tryz.prog]⟩) [] Tryz.func85 (by kernel_rfl) (by kernel_rfl) trivial (fun k x => by kernel_rfl) fun _ _ => by kernel_rfl
def rf09_Same_L0 : Nat → ((List GBooked) × (List GBooked) × Int) → Option ((Unit) ⊕ (Bool))
  | 0, _ => none
  | k + 1, (a, b, i) =>
  bif decide (i < Int.ofNat (List.length a)) then
  bif decide (0 ≤ i) then
   bif decide (i < Int.ofNat (List.length a)) then
    bif decide (0 ≤ i) then
     bif decide (i < Int.ofNat (List.length b)) then
      bif !((List.getD a (Int.toNat i) (0, 0, 0, 0)).1 == (List.getD b (Int.toNat i) (0, 0, 0, 0)).1 && ((List.getD a (Int.toNat i) (0, 0, 0, 0)).2.1 == (List.getD b (Int.toNat i) (0, 0, 0, 0)).2.1 && ((List.getD a (Int.toNat i) (0, 0, 0, 0)).2.2.1 == (List.getD b (Int.toNat i) (0, 0, 0, 0)).2.2.1 && (List.getD a (Int.toNat i) (0, 0, 0, 0)).2.2.2 == (List.getD b (Int.toNat i) (0, 0, 0, 0)).2.2.2))) then
       some (Sum.inr false)
      else
       rf09_Same_L0 k (a, b, w64 (i + 1))
     else
      none
    else
     none
   else
    none
  else
   none
 else
  some (Sum.inl ())
def rf09_Same (k : Nat) : ((List GBooked) × (List GBooked)) → Option (Bool) := fun (a, b) =>
  bif !decide (Int.ofNat (List.length a) = Int.ofNat (List.length b)) then
  some (false)
 else
  (rf09_Same_L0 k (a, b, 0)).bind fun o_2 =>
   match o_2 with
   | .inl o_3 =>
    some (true)
   | .inr o_3 =>
    some (o_3)
noncomputable def rf09_Same_e := entOf (P := Tryz.prog) (A := [.one (.row 50 kGBooked), .one (.row 50 kGBooked)]) (R := [.one (.sc (.bool))]) Tryz.f34 rf09_Same (fun k => ⟨[], [], [hkStr Tryz.prog]⟩) [some ⟨0, [(0, .one (.ro kGBooked)), (1, .one (.ro kGBooked)), (5, .one (.sc (.int .i64)))], [], rf09_Same_L0⟩] Tryz.func34 (by kernel_rfl) (by kernel_rfl) ⟨⟨fun _ => rfl, fun k x => by kernel_rfl⟩, trivial⟩ (fun k x => by kernel_rfl) fun _ _ => by kernel_rfl
def rf09_Right_L1 : Nat → ((List GBooked) × Int × GBooked × Bool × Int) → Option (((List GBooked) × Int × Bool) ⊕ (Bool))
  | 0, _ => none
  | k + 1, (l, i, b, some5, k6) =>
  bif decide (k6 < 3) then
  bif decide (k6 = Int.ofNat 0) then
   bif decide (b.2.1 < 0) then
    some (Sum.inr false)
   else
    bif decide (k6 = Int.ofNat 0) then
     bif decide (4611686018427387904 < b.2.1) then
      some (Sum.inr false)
     else
      bif some5 then
       rf09_Right_L1 k (l, i, b, true, w64 (k6 + 1))
      else
       bif decide (k6 = Int.ofNat 0) then
        bif decide (0 < b.2.1) then
         rf09_Right_L1 k (l, i, b, true, w64 (k6 + 1))
        else
         rf09_Right_L1 k (l, i, b, false, w64 (k6 + 1))
       else
        bif decide (k6 = Int.ofNat (0 + 1)) then
         bif decide (0 < b.2.2.1) then
          rf09_Right_L1 k (l, i, b, true, w64 (k6 + 1))
         else
          rf09_Right_L1 k (l, i, b, false, w64 (k6 + 1))
        else
         bif decide (k6 = Int.ofNat (0 + 1 + 1)) then
          bif decide (0 < b.2.2.2) then
           rf09_Right_L1 k (l, i, b, true, w64 (k6 + 1))
          else
           rf09_Right_L1 k (l, i, b, false, w64 (k6 + 1))
         else
          none
    else
     bif decide (k6 = Int.ofNat (0 + 1)) then
      bif decide (4611686018427387904 < b.2.2.1) then
       some (Sum.inr false)
      else
       bif some5 then
        rf09_Right_L1 k (l, i, b, true, w64 (k6 + 1))
       else
        bif decide (k6 = Int.ofNat 0) then
         bif decide (0 < b.2.1) then
          rf09_Right_L1 k (l, i, b, true, w64 (k6 + 1))
         else
          rf09_Right_L1 k (l, i, b, false, w64 (k6 + 1))
        else
         bif decide (k6 = Int.ofNat (0 + 1)) then
          bif decide (0 < b.2.2.1) then
           rf09_Right_L1 k (l, i, b, true, w64 (k6 + 1))
          else
           rf09_Right_L1 k (l, i, b, false, w64 (k6 + 1))
         else
          bif decide (k6 = Int.ofNat (0 + 1 + 1)) then
           bif decide (0 < b.2.2.2) then
            rf09_Right_L1 k (l, i, b, true, w64 (k6 + 1))
           else
            rf09_Right_L1 k (l, i, b, false, w64 (k6 + 1))
          else
           none
     else
      bif decide (k6 = Int.ofNat (0 + 1 + 1)) then
       bif decide (4611686018427387904 < b.2.2.2) then
        some (Sum.inr false)
       else
        bif some5 then
         rf09_Right_L1 k (l, i, b, true, w64 (k6 + 1))
        else
         bif decide (k6 = Int.ofNat 0) then
          bif decide (0 < b.2.1) then
           rf09_Right_L1 k (l, i, b, true, w64 (k6 + 1))
          else
           rf09_Right_L1 k (l, i, b, false, w64 (k6 + 1))
         else
          bif decide (k6 = Int.ofNat (0 + 1)) then
           bif decide (0 < b.2.2.1) then
            rf09_Right_L1 k (l, i, b, true, w64 (k6 + 1))
           else
            rf09_Right_L1 k (l, i, b, false, w64 (k6 + 1))
          else
           bif decide (k6 = Int.ofNat (0 + 1 + 1)) then
            bif decide (0 < b.2.2.2) then
             rf09_Right_L1 k (l, i, b, true, w64 (k6 + 1))
            else
             rf09_Right_L1 k (l, i, b, false, w64 (k6 + 1))
           else
            none
      else
       none
  else
   bif decide (k6 = Int.ofNat (0 + 1)) then
    bif decide (b.2.2.1 < 0) then
     some (Sum.inr false)
    else
     bif decide (k6 = Int.ofNat 0) then
      bif decide (4611686018427387904 < b.2.1) then
       some (Sum.inr false)
      else
       bif some5 then
        rf09_Right_L1 k (l, i, b, true, w64 (k6 + 1))
       else
        bif decide (k6 = Int.ofNat 0) then
         bif decide (0 < b.2.1) then
          rf09_Right_L1 k (l, i, b, true, w64 (k6 + 1))
         else
          rf09_Right_L1 k (l, i, b, false, w64 (k6 + 1))
        else
         bif decide (k6 = Int.ofNat (0 + 1)) then
          bif decide (0 < b.2.2.1) then
           rf09_Right_L1 k (l, i, b, true, w64 (k6 + 1))
          else
           rf09_Right_L1 k (l, i, b, false, w64 (k6 + 1))
         else
          bif decide (k6 = Int.ofNat (0 + 1 + 1)) then
           bif decide (0 < b.2.2.2) then
            rf09_Right_L1 k (l, i, b, true, w64 (k6 + 1))
           else
            rf09_Right_L1 k (l, i, b, false, w64 (k6 + 1))
          else
           none
     else
      bif decide (k6 = Int.ofNat (0 + 1)) then
       bif decide (4611686018427387904 < b.2.2.1) then
        some (Sum.inr false)
       else
        bif some5 then
         rf09_Right_L1 k (l, i, b, true, w64 (k6 + 1))
        else
         bif decide (k6 = Int.ofNat 0) then
          bif decide (0 < b.2.1) then
           rf09_Right_L1 k (l, i, b, true, w64 (k6 + 1))
          else
           rf09_Right_L1 k (l, i, b, false, w64 (k6 + 1))
         else
          bif decide (k6 = Int.ofNat (0 + 1)) then
           bif decide (0 < b.2.2.1) then
            rf09_Right_L1 k (l, i, b, true, w64 (k6 + 1))
           else
            rf09_Right_L1 k (l, i, b, false, w64 (k6 + 1))
          else
           bif decide (k6 = Int.ofNat (0 + 1 + 1)) then
            bif decide (0 < b.2.2.2) then
             rf09_Right_L1 k (l, i, b, true, w64 (k6 + 1))
            else
             rf09_Right_L1 k (l, i, b, false, w64 (k6 + 1))
           else
            none
      else
       bif decide (k6 = Int.ofNat (0 + 1 + 1)) then
        bif decide (4611686018427387904 < b.2.2.2) then
         some (Sum.inr false)
        else
         bif some5 then
          rf09_Right_L1 k (l, i, b, true, w64 (k6 + 1))
         else
          bif decide (k6 = Int.ofNat 0) then
           bif decide (0 < b.2.1) then
            rf09_Right_L1 k (l, i, b, true, w64 (k6 + 1))
           else
            rf09_Right_L1 k (l, i, b, false, w64 (k6 + 1))
          else
           bif decide (k6 = Int.ofNat (0 + 1)) then
            bif decide (0 < b.2.2.1) then
             rf09_Right_L1 k (l, i, b, true, w64 (k6 + 1))
            else
             rf09_Right_L1 k (l, i, b, false, w64 (k6 + 1))
           else
            bif decide (k6 = Int.ofNat (0 + 1 + 1)) then
             bif decide (0 < b.2.2.2) then
              rf09_Right_L1 k (l, i, b, true, w64 (k6 + 1))
             else
              rf09_Right_L1 k (l, i, b, false, w64 (k6 + 1))
            else
             none
       else
        none
   else
    bif decide (k6 = Int.ofNat (0 + 1 + 1)) then
     bif decide (b.2.2.2 < 0) then
      some (Sum.inr false)
     else
      bif decide (k6 = Int.ofNat 0) then
       bif decide (4611686018427387904 < b.2.1) then
        some (Sum.inr false)
       else
        bif some5 then
         rf09_Right_L1 k (l, i, b, true, w64 (k6 + 1))
        else
         bif decide (k6 = Int.ofNat 0) then
          bif decide (0 < b.2.1) then
           rf09_Right_L1 k (l, i, b, true, w64 (k6 + 1))
          else
           rf09_Right_L1 k (l, i, b, false, w64 (k6 + 1))
         else
          bif decide (k6 = Int.ofNat (0 + 1)) then
           bif decide (0 < b.2.2.1) then
            rf09_Right_L1 k (l, i, b, true, w64 (k6 + 1))
           else
            rf09_Right_L1 k (l, i, b, false, w64 (k6 + 1))
          else
           bif decide (k6 = Int.ofNat (0 + 1 + 1)) then
            bif decide (0 < b.2.2.2) then
             rf09_Right_L1 k (l, i, b, true, w64 (k6 + 1))
            else
             rf09_Right_L1 k (l, i, b, false, w64 (k6 + 1))
           else
            none
      else
       bif decide (k6 = Int.ofNat (0 + 1)) then
        bif decide (4611686018427387904 < b.2.2.1) then
         some (Sum.inr false)
        else
         bif some5 then
          rf09_Right_L1 k (l, i, b, true, w64 (k6 + 1))
         else
          bif decide (k6 = Int.ofNat 0) then
           bif decide (0 < b.2.1) then
            rf09_Right_L1 k (l, i, b, true, w64 (k6 + 1))
           else
            rf09_Right_L1 k (l, i, b, false, w64 (k6 + 1))
          else
           bif decide (k6 = Int.ofNat (0 + 1)) then
            bif decide (0 < b.2.2.1) then
             rf09_Right_L1 k (l, i, b, true, w64 (k6 + 1))
            else
             rf09_Right_L1 k (l, i, b, false, w64 (k6 + 1))
           else
            bif decide (k6 = Int.ofNat (0 + 1 + 1)) then
             bif decide (0 < b.2.2.2) then
              rf09_Right_L1 k (l, i, b, true, w64 (k6 + 1))
             else
              rf09_Right_L1 k (l, i, b, false, w64 (k6 + 1))
            else
             none
       else
        bif decide (k6 = Int.ofNat (0 + 1 + 1)) then
         bif decide (4611686018427387904 < b.2.2.2) then
          some (Sum.inr false)
         else
          bif some5 then
           rf09_Right_L1 k (l, i, b, true, w64 (k6 + 1))
          else
           bif decide (k6 = Int.ofNat 0) then
            bif decide (0 < b.2.1) then
             rf09_Right_L1 k (l, i, b, true, w64 (k6 + 1))
            else
             rf09_Right_L1 k (l, i, b, false, w64 (k6 + 1))
           else
            bif decide (k6 = Int.ofNat (0 + 1)) then
             bif decide (0 < b.2.2.1) then
              rf09_Right_L1 k (l, i, b, true, w64 (k6 + 1))
             else
              rf09_Right_L1 k (l, i, b, false, w64 (k6 + 1))
            else
             bif decide (k6 = Int.ofNat (0 + 1 + 1)) then
              bif decide (0 < b.2.2.2) then
               rf09_Right_L1 k (l, i, b, true, w64 (k6 + 1))
              else
               rf09_Right_L1 k (l, i, b, false, w64 (k6 + 1))
             else
              none
        else
         none
    else
     none
 else
  some (Sum.inl (l, i, some5))
def rf09_Right_L0 : Nat → ((List GBooked) × Int) → Option ((Unit) ⊕ (Bool))
  | 0, _ => none
  | k + 1, (l, i) =>
  bif decide (i < Int.ofNat (List.length l)) then
  bif decide (0 ≤ i) then
   bif decide (i < Int.ofNat (List.length l)) then
    bif decide ((List.getD l (Int.toNat i) (0, 0, 0, 0)).1 < 1) then
     some (Sum.inr false)
    else
     bif decide (1048576 < (List.getD l (Int.toNat i) (0, 0, 0, 0)).1) then
      some (Sum.inr false)
     else
      bif decide (0 < i) then
       bif decide (0 ≤ w64 (i - 1)) then
        bif decide (w64 (i - 1) < Int.ofNat (List.length l)) then
         bif decide ((List.getD l (Int.toNat i) (0, 0, 0, 0)).1 ≤ (List.getD l (Int.toNat (w64 (i - 1))) (0, 0, 0, 0)).1) then
          some (Sum.inr false)
         else
          (rf09_Right_L1 k (l, i, List.getD l (Int.toNat i) (0, 0, 0, 0), false, 0)).bind fun o_10 =>
           match o_10 with
           | .inl o_11 =>
            bif o_11.2.2 then
             rf09_Right_L0 k (o_11.1, w64 (o_11.2.1 + 1))
            else
             some (Sum.inr false)
           | .inr o_11 =>
            some (Sum.inr o_11)
        else
         none
       else
        none
      else
       (rf09_Right_L1 k (l, i, List.getD l (Int.toNat i) (0, 0, 0, 0), false, 0)).bind fun o_7 =>
        match o_7 with
        | .inl o_8 =>
         bif o_8.2.2 then
          rf09_Right_L0 k (o_8.1, w64 (o_8.2.1 + 1))
         else
          some (Sum.inr false)
        | .inr o_8 =>
         some (Sum.inr o_8)
   else
    none
  else
   none
 else
  some (Sum.inl ())
def rf09_Right (k : Nat) : (List GBooked) → Option (Bool) := fun (l) =>
  (rf09_Right_L0 k (l, 0)).bind fun o_1 =>
  match o_1 with
  | .inl o_2 =>
   some (true)
  | .inr o_2 =>
   some (o_2)
noncomputable def rf09_Right_e := entOf (P := Tryz.prog) (A := [.one (.row 50 kGBooked)]) (R := [.one (.sc (.bool))]) Tryz.f42 rf09_Right (fun k => ⟨[], [], [hkStr Tryz.prog]⟩) [some ⟨0, [(0, .one (.ro kGBooked)), (3, .one (.sc (.int .i64)))], [], rf09_Right_L0⟩, some ⟨2, [(0, .one (.ro kGBooked)), (3, .one (.sc (.int .i64))), (4, .box 50 toGBooked), (5, .one (.sc (.bool))), (6, .one (.sc (.int .i64)))], [(0, .one (.ro kGBooked)), (3, .one (.sc (.int .i64))), (5, .one (.sc (.bool)))], rf09_Right_L1⟩] Tryz.func42 (by kernel_rfl) (by kernel_rfl) ⟨⟨fun _ => rfl, fun k x => by kernel_rfl⟩, ⟨⟨fun _ => rfl, fun k x => by kernel_rfl⟩, trivial⟩⟩ (fun k x => by kernel_rfl) fun _ _ => by kernel_rfl
def rf09_Copy (k : Nat) : (List GBooked) → Option (List GBooked) := fun (l) =>
  bif decide ((0 + List.length l) * 32 ≤ 140737488355328) then
  some (l)
 else
  none
noncomputable def rf09_Copy_e := entOf (P := Tryz.prog) (A := [.one (.row 50 kGBooked)]) (R := [.one (.row 50 kGBooked)]) Tryz.f47 rf09_Copy (fun k => ⟨[], [], [hkStr Tryz.prog]⟩) [] Tryz.func47 (by kernel_rfl) (by kernel_rfl) trivial (fun k x => by kernel_rfl) fun _ _ => by kernel_rfl
def rf09_class (k : Nat) : Int → Option (Bool) := fun (n) =>
  bif decide (0 ≤ n) then
  bif decide (n < 3) then
   some (true)
  else
   some (false)
 else
  some (false)
noncomputable def rf09_class_e := entOf (P := Tryz.prog) (A := [.one (.sc (.int .i64))]) (R := [.one (.sc (.bool))]) Tryz.f152 rf09_class (fun k => ⟨[], [], [hkStr Tryz.prog]⟩) [] Tryz.func152 (by kernel_rfl) (by kernel_rfl) trivial (fun k x => by kernel_rfl) fun _ _ => by kernel_rfl
def rf09_Used_L0 : Nat → ((List GBooked) × Int × T48 × Int) → Option ((T48) ⊕ (T48))
  | 0, _ => none
  | k + 1, (l, id, t4, i) =>
  bif decide (i < Int.ofNat (List.length l)) then
  bif decide (0 ≤ i) then
   bif decide (i < Int.ofNat (List.length l)) then
    bif decide ((List.getD l (Int.toNat i) (0, 0, 0, 0)).1 = id) then
     bif decide (0 ≤ i) then
      bif decide (i < Int.ofNat (List.length l)) then
       some (Sum.inr (List.getD l (Int.toNat i) (0, 0, 0, 0)).2)
      else
       none
     else
      none
    else
     rf09_Used_L0 k (l, id, t4, w64 (i + 1))
   else
    none
  else
   none
 else
  some (Sum.inl t4)
def rf09_Used (k : Nat) : ((List GBooked) × Int) → Option (T48) := fun (l, id) =>
  (rf09_Used_L0 k (l, id, (0, 0, 0), 0)).bind fun o_1 =>
  match o_1 with
  | .inl o_2 =>
   some ((0, 0, 0))
  | .inr o_2 =>
   some (o_2)
noncomputable def rf09_Used_e := entOf (P := Tryz.prog) (A := [.one (.row 50 kGBooked), .one (.sc (.int .i64))]) (R := [.agg lT48]) Tryz.f90 rf09_Used (fun k => ⟨[], [], [hkStr Tryz.prog]⟩) [some ⟨0, [(0, .one (.ro kGBooked)), (1, .one (.sc (.int .i64))), (4, .box 48 toT48), (5, .one (.sc (.int .i64)))], [(4, .box 48 toT48)], rf09_Used_L0⟩] Tryz.func90 (by kernel_rfl) (by kernel_rfl) ⟨⟨fun _ => rfl, fun k x => by kernel_rfl⟩, trivial⟩ (fun k x => by kernel_rfl) fun _ _ => by kernel_rfl
def rf09_Backlog_L0 : Nat → (T48 × Int × Int) → Option ((Int) ⊕ (Int))
  | 0, _ => none
  | k + 1, (u, n, k9) =>
  bif decide (k9 < 3) then
  bif decide (k9 = Int.ofNat 0) then
   bif decide (k9 = Int.ofNat 0) then
    rf09_Backlog_L0 k (u, w64 (mn n (w64 (4611686018427387904 - u.1)) + u.1), w64 (k9 + 1))
   else
    bif decide (k9 = Int.ofNat (0 + 1)) then
     rf09_Backlog_L0 k (u, w64 (mn n (w64 (4611686018427387904 - u.1)) + u.2.1), w64 (k9 + 1))
    else
     bif decide (k9 = Int.ofNat (0 + 1 + 1)) then
      rf09_Backlog_L0 k (u, w64 (mn n (w64 (4611686018427387904 - u.1)) + u.2.2), w64 (k9 + 1))
     else
      none
  else
   bif decide (k9 = Int.ofNat (0 + 1)) then
    bif decide (k9 = Int.ofNat 0) then
     rf09_Backlog_L0 k (u, w64 (mn n (w64 (4611686018427387904 - u.2.1)) + u.1), w64 (k9 + 1))
    else
     bif decide (k9 = Int.ofNat (0 + 1)) then
      rf09_Backlog_L0 k (u, w64 (mn n (w64 (4611686018427387904 - u.2.1)) + u.2.1), w64 (k9 + 1))
     else
      bif decide (k9 = Int.ofNat (0 + 1 + 1)) then
       rf09_Backlog_L0 k (u, w64 (mn n (w64 (4611686018427387904 - u.2.1)) + u.2.2), w64 (k9 + 1))
      else
       none
   else
    bif decide (k9 = Int.ofNat (0 + 1 + 1)) then
     bif decide (k9 = Int.ofNat 0) then
      rf09_Backlog_L0 k (u, w64 (mn n (w64 (4611686018427387904 - u.2.2)) + u.1), w64 (k9 + 1))
     else
      bif decide (k9 = Int.ofNat (0 + 1)) then
       rf09_Backlog_L0 k (u, w64 (mn n (w64 (4611686018427387904 - u.2.2)) + u.2.1), w64 (k9 + 1))
      else
       bif decide (k9 = Int.ofNat (0 + 1 + 1)) then
        rf09_Backlog_L0 k (u, w64 (mn n (w64 (4611686018427387904 - u.2.2)) + u.2.2), w64 (k9 + 1))
       else
        none
    else
     none
 else
  some (Sum.inl n)
def rf09_Backlog (k : Nat) : ((List GBooked) × Int × Int) → Option (Int) := fun (l, id, c2) =>
  (rf09_class k c2).bind fun o_1 =>
  bif o_1 then
   (rf09_Used k (l, id)).bind fun o_3 =>
    (rf09_Backlog_L0 k (o_3, 0, c2)).bind fun o_4 =>
     match o_4 with
     | .inl o_5 =>
      some (o_5)
     | .inr o_5 =>
      some (o_5)
  else
   some (0)
noncomputable def rf09_Backlog_e := entOf (P := Tryz.prog) (A := [.one (.row 50 kGBooked), .one (.sc (.int .i64)), .one (.sc (.int .i64))]) (R := [.one (.sc (.int .i64))]) Tryz.f197 rf09_Backlog (fun k => ⟨[rf09_Used_e k, rf09_class_e k], [], [hkStr Tryz.prog]⟩) [some ⟨0, [(7, .box 48 toT48), (8, .one (.sc (.int .i64))), (9, .one (.sc (.int .i64)))], [(8, .one (.sc (.int .i64)))], rf09_Backlog_L0⟩] Tryz.func197 (by kernel_rfl) (by kernel_rfl) ⟨⟨fun _ => rfl, fun k x => by kernel_rfl⟩, trivial⟩ (fun k x => by kernel_rfl) fun _ _ => by kernel_rfl
def rf09_Room (k : Nat) : ((List GBooked) × GContact × Int) → Option (Int) := fun (l, c1, k2) =>
  (rf09_class k k2).bind fun o_1 =>
  bif o_1 then
   (rf03_Volume k c1).bind fun o_3 =>
    (rf09_Backlog k (l, c1.1, k2)).bind fun o_4 =>
     some (mx 0 (w64 (o_3 - o_4)))
  else
   some (0)
noncomputable def rf09_Room_e := entOf (P := Tryz.prog) (A := [.one (.row 50 kGBooked), .agg lGContact, .one (.sc (.int .i64))]) (R := [.one (.sc (.int .i64))]) Tryz.f153 rf09_Room (fun k => ⟨[rf03_Volume_e k, rf09_class_e k, rf09_Backlog_e k], [], [hkStr Tryz.prog]⟩) [] Tryz.func153 (by kernel_rfl) (by kernel_rfl) trivial (fun k x => by kernel_rfl) fun _ _ => by kernel_rfl
def rf09_Drop_L1 : Nat → ((List GBooked) × (List Int) × (List GBooked) × Int × Bool × Int) → Option (((List GBooked) × (List Int) × (List GBooked) × Int × Bool) ⊕ (List GBooked))
  | 0, _ => none
  | k + 1, (l, ids, out5, i, gone, k8) =>
  bif decide (k8 < Int.ofNat (List.length ids)) then
  bif gone then
   rf09_Drop_L1 k (l, ids, out5, i, true, w64 (k8 + 1))
  else
   bif decide (0 ≤ k8) then
    bif decide (k8 < Int.ofNat (List.length ids)) then
     bif decide (0 ≤ i) then
      bif decide (i < Int.ofNat (List.length l)) then
       bif decide (List.getD ids (Int.toNat k8) 0 = (List.getD l (Int.toNat i) (0, 0, 0, 0)).1) then
        rf09_Drop_L1 k (l, ids, out5, i, true, w64 (k8 + 1))
       else
        rf09_Drop_L1 k (l, ids, out5, i, false, w64 (k8 + 1))
      else
       none
     else
      none
    else
     none
   else
    none
 else
  some (Sum.inl (l, ids, out5, i, gone))
def rf09_Drop_L0 : Nat → ((List GBooked) × (List Int) × (List GBooked) × Int) → Option ((List GBooked) ⊕ (List GBooked))
  | 0, _ => none
  | k + 1, (l, ids, out5, i) =>
  bif decide (i < Int.ofNat (List.length l)) then
  (rf09_Drop_L1 k (l, ids, out5, i, false, 0)).bind fun o_2 =>
   match o_2 with
   | .inl o_3 =>
    bif o_3.2.2.2.2 then
     rf09_Drop_L0 k (o_3.1, o_3.2.1, o_3.2.2.1, w64 (o_3.2.2.2.1 + 1))
    else
     bif decide (0 ≤ o_3.2.2.2.1) then
      bif decide (o_3.2.2.2.1 < Int.ofNat (List.length o_3.1)) then
       bif decide ((List.length o_3.2.2.1 + List.length [List.getD o_3.1 (Int.toNat o_3.2.2.2.1) (0, 0, 0, 0)]) * 32 ≤ 140737488355328) then
        rf09_Drop_L0 k (o_3.1, o_3.2.1, o_3.2.2.1 ++ [List.getD o_3.1 (Int.toNat o_3.2.2.2.1) (0, 0, 0, 0)], w64 (o_3.2.2.2.1 + 1))
       else
        none
      else
       none
     else
      none
   | .inr o_3 =>
    some (Sum.inr o_3)
 else
  some (Sum.inl out5)
def rf09_Drop (k : Nat) : ((List GBooked) × (List Int)) → Option (List GBooked) := fun (l, ids) =>
  (rf09_Drop_L0 k (l, ids, [], 0)).bind fun o_1 =>
  match o_1 with
  | .inl o_2 =>
   some (o_2)
  | .inr o_2 =>
   some (o_2)
noncomputable def rf09_Drop_e := entOf (P := Tryz.prog) (A := [.one (.row 50 kGBooked), .one (.row 3 [.int .i64])]) (R := [.one (.row 50 kGBooked)]) Tryz.f89 rf09_Drop (fun k => ⟨[], [], [hkStr Tryz.prog]⟩) [some ⟨0, [(0, .one (.ro kGBooked)), (1, .one (.ro [.int .i64])), (5, .one (.own 50 kGBooked)), (6, .one (.sc (.int .i64)))], [(5, .one (.own 50 kGBooked))], rf09_Drop_L0⟩, some ⟨2, [(0, .one (.ro kGBooked)), (1, .one (.ro [.int .i64])), (5, .one (.own 50 kGBooked)), (6, .one (.sc (.int .i64))), (7, .one (.sc (.bool))), (8, .one (.sc (.int .i64)))], [(0, .one (.ro kGBooked)), (1, .one (.ro [.int .i64])), (5, .one (.own 50 kGBooked)), (6, .one (.sc (.int .i64))), (7, .one (.sc (.bool)))], rf09_Drop_L1⟩] Tryz.func89 (by kernel_rfl) (by kernel_rfl) ⟨⟨fun _ => rfl, fun k x => by kernel_rfl⟩, ⟨⟨fun _ => rfl, fun k x => by kernel_rfl⟩, trivial⟩⟩ (fun k x => by kernel_rfl) fun _ _ => by kernel_rfl
def rf09_with_L0 : Nat → ((List GBooked) × Int × T48 × (List GBooked) × Bool × Int) → Option ((Int × T48 × (List GBooked) × Bool) ⊕ (List GBooked))
  | 0, _ => none
  | k + 1, (l, id, u, out7, laid, i) =>
  bif decide (i < Int.ofNat (List.length l)) then
  bif laid then
   bif decide (0 ≤ i) then
    bif decide (i < Int.ofNat (List.length l)) then
     bif !decide ((List.getD l (Int.toNat i) (0, 0, 0, 0)).1 = id) then
      bif decide (0 ≤ i) then
       bif decide (i < Int.ofNat (List.length l)) then
        bif decide ((List.length out7 + List.length [List.getD l (Int.toNat i) (0, 0, 0, 0)]) * 32 ≤ 140737488355328) then
         rf09_with_L0 k (l, id, u, out7 ++ [List.getD l (Int.toNat i) (0, 0, 0, 0)], laid, w64 (i + 1))
        else
         none
       else
        none
      else
       none
     else
      rf09_with_L0 k (l, id, u, out7, laid, w64 (i + 1))
    else
     none
   else
    none
  else
   bif decide (0 ≤ i) then
    bif decide (i < Int.ofNat (List.length l)) then
     bif decide (id ≤ (List.getD l (Int.toNat i) (0, 0, 0, 0)).1) then
      bif decide ((List.length out7 + List.length [(id, u)]) * 32 ≤ 140737488355328) then
       bif decide (0 ≤ i) then
        bif decide (i < Int.ofNat (List.length l)) then
         bif !decide ((List.getD l (Int.toNat i) (0, 0, 0, 0)).1 = id) then
          bif decide (0 ≤ i) then
           bif decide (i < Int.ofNat (List.length l)) then
            bif decide ((List.length (out7 ++ [(id, u)]) + List.length [List.getD l (Int.toNat i) (0, 0, 0, 0)]) * 32 ≤ 140737488355328) then
             rf09_with_L0 k (l, id, u, out7 ++ [(id, u)] ++ [List.getD l (Int.toNat i) (0, 0, 0, 0)], true, w64 (i + 1))
            else
             none
           else
            none
          else
           none
         else
          rf09_with_L0 k (l, id, u, out7 ++ [(id, u)], true, w64 (i + 1))
        else
         none
       else
        none
      else
       none
     else
      bif decide (0 ≤ i) then
       bif decide (i < Int.ofNat (List.length l)) then
        bif !decide ((List.getD l (Int.toNat i) (0, 0, 0, 0)).1 = id) then
         bif decide (0 ≤ i) then
          bif decide (i < Int.ofNat (List.length l)) then
           bif decide ((List.length out7 + List.length [List.getD l (Int.toNat i) (0, 0, 0, 0)]) * 32 ≤ 140737488355328) then
            rf09_with_L0 k (l, id, u, out7 ++ [List.getD l (Int.toNat i) (0, 0, 0, 0)], laid, w64 (i + 1))
           else
            none
          else
           none
         else
          none
        else
         rf09_with_L0 k (l, id, u, out7, laid, w64 (i + 1))
       else
        none
      else
       none
    else
     none
   else
    none
 else
  some (Sum.inl (id, u, out7, laid))
def rf09_with (k : Nat) : ((List GBooked) × Int × T48) → Option (List GBooked) := fun (l, id, u) =>
  bif u.1 == 0 && (u.2.1 == 0 && u.2.2 == 0) then
  (rf09_with_L0 k (l, id, u, [], true, 0)).bind fun o_2 =>
   match o_2 with
   | .inl o_3 =>
    bif o_3.2.2.2 then
     some (o_3.2.2.1)
    else
     bif decide ((List.length o_3.2.2.1 + List.length [(o_3.1, o_3.2.1)]) * 32 ≤ 140737488355328) then
      some (o_3.2.2.1 ++ [(o_3.1, o_3.2.1)])
     else
      none
   | .inr o_3 =>
    some (o_3)
 else
  (rf09_with_L0 k (l, id, u, [], false, 0)).bind fun o_2 =>
   match o_2 with
   | .inl o_3 =>
    bif o_3.2.2.2 then
     some (o_3.2.2.1)
    else
     bif decide ((List.length o_3.2.2.1 + List.length [(o_3.1, o_3.2.1)]) * 32 ≤ 140737488355328) then
      some (o_3.2.2.1 ++ [(o_3.1, o_3.2.1)])
     else
      none
   | .inr o_3 =>
    some (o_3)
noncomputable def rf09_with_e := entOf (P := Tryz.prog) (A := [.one (.row 50 kGBooked), .one (.sc (.int .i64)), .agg lT48]) (R := [.one (.row 50 kGBooked)]) Tryz.f154 rf09_with (fun k => ⟨[], [], [hkStr Tryz.prog]⟩) [some ⟨0, [(0, .one (.ro kGBooked)), (1, .one (.sc (.int .i64))), (5, .box 48 trT48), (7, .one (.own 50 kGBooked)), (8, .one (.sc (.bool))), (9, .one (.sc (.int .i64)))], [(1, .one (.sc (.int .i64))), (5, .box 48 trT48), (7, .one (.own 50 kGBooked)), (8, .one (.sc (.bool)))], rf09_with_L0⟩] Tryz.func154 (by kernel_rfl) (by kernel_rfl) ⟨⟨fun _ => rfl, fun k x => by kernel_rfl⟩, trivial⟩ (fun k x => by kernel_rfl) fun _ _ => by kernel_rfl
def rf09_Book (k : Nat) : ((List GBooked) × GContact × Int × Int) → Option ((List GBooked) × Bool) := fun (l, c1, k2, size) =>
  (rf03_Contact k c1).bind fun o_1 =>
  bif o_1 then
   (rf09_class k k2).bind fun o_3 =>
    bif o_3 then
     bif decide (size < 0) then
      (rf09_Copy k l).bind fun o_6 =>
       some ((o_6, false))
     else
      (rf09_Room k (l, c1, k2)).bind fun o_6 =>
       bif decide (o_6 < size) then
        (rf09_Copy k l).bind fun o_8 =>
         some ((o_8, false))
       else
        (rf09_Used k (l, c1.1)).bind fun o_8 =>
         bif decide (k2 = Int.ofNat 0) then
          bif decide (k2 = Int.ofNat 0) then
           (rf09_with k (l, c1.1, w64 (o_8.1 + size), o_8.2)).bind fun o_11 =>
            some ((o_11, true))
          else
           bif decide (k2 = Int.ofNat (0 + 1)) then
            (rf09_with k (l, c1.1, o_8.1, w64 (o_8.1 + size), o_8.2.2)).bind fun o_12 =>
             some ((o_12, true))
           else
            bif decide (k2 = Int.ofNat (0 + 1 + 1)) then
             (rf09_with k (l, c1.1, o_8.1, o_8.2.1, w64 (o_8.1 + size))).bind fun o_13 =>
              some ((o_13, true))
            else
             none
         else
          bif decide (k2 = Int.ofNat (0 + 1)) then
           bif decide (k2 = Int.ofNat 0) then
            (rf09_with k (l, c1.1, w64 (o_8.2.1 + size), o_8.2)).bind fun o_12 =>
             some ((o_12, true))
           else
            bif decide (k2 = Int.ofNat (0 + 1)) then
             (rf09_with k (l, c1.1, o_8.1, w64 (o_8.2.1 + size), o_8.2.2)).bind fun o_13 =>
              some ((o_13, true))
            else
             bif decide (k2 = Int.ofNat (0 + 1 + 1)) then
              (rf09_with k (l, c1.1, o_8.1, o_8.2.1, w64 (o_8.2.1 + size))).bind fun o_14 =>
               some ((o_14, true))
             else
              none
          else
           bif decide (k2 = Int.ofNat (0 + 1 + 1)) then
            bif decide (k2 = Int.ofNat 0) then
             (rf09_with k (l, c1.1, w64 (o_8.2.2 + size), o_8.2)).bind fun o_13 =>
              some ((o_13, true))
            else
             bif decide (k2 = Int.ofNat (0 + 1)) then
              (rf09_with k (l, c1.1, o_8.1, w64 (o_8.2.2 + size), o_8.2.2)).bind fun o_14 =>
               some ((o_14, true))
             else
              bif decide (k2 = Int.ofNat (0 + 1 + 1)) then
               (rf09_with k (l, c1.1, o_8.1, o_8.2.1, w64 (o_8.2.2 + size))).bind fun o_15 =>
                some ((o_15, true))
              else
               none
           else
            none
    else
     (rf09_Copy k l).bind fun o_5 =>
      some ((o_5, false))
  else
   (rf09_Copy k l).bind fun o_3 =>
    some ((o_3, false))
noncomputable def rf09_Book_e := entOf (P := Tryz.prog) (A := [.one (.row 50 kGBooked), .agg lGContact, .one (.sc (.int .i64)), .one (.sc (.int .i64))]) (R := [.one (.row 50 kGBooked), .one (.sc (.bool))]) Tryz.f95 rf09_Book (fun k => ⟨[rf09_Copy_e k, rf09_Used_e k, rf03_Contact_e k, rf09_class_e k, rf09_Room_e k, rf09_with_e k], [], [hkStr Tryz.prog]⟩) [] Tryz.func95 (by kernel_rfl) (by kernel_rfl) trivial (fun k x => by kernel_rfl) fun _ _ => by kernel_rfl
def rf09_Release (k : Nat) : ((List GBooked) × Int × Int × Int) → Option ((List GBooked) × Bool) := fun (l, id, k2, size) =>
  (rf09_Used k (l, id)).bind fun o_1 =>
  (rf09_class k k2).bind fun o_2 =>
   bif o_2 then
    bif decide (size < 0) then
     (rf09_Copy k l).bind fun o_5 =>
      some ((o_5, false))
    else
     bif decide (k2 = Int.ofNat 0) then
      bif decide (o_1.1 < size) then
       (rf09_Copy k l).bind fun o_7 =>
        some ((o_7, false))
      else
       bif decide (k2 = Int.ofNat 0) then
        bif decide (k2 = Int.ofNat 0) then
         (rf09_with k (l, id, w64 (o_1.1 - size), o_1.2)).bind fun o_9 =>
          some ((o_9, true))
        else
         bif decide (k2 = Int.ofNat (0 + 1)) then
          (rf09_with k (l, id, o_1.1, w64 (o_1.1 - size), o_1.2.2)).bind fun o_10 =>
           some ((o_10, true))
         else
          bif decide (k2 = Int.ofNat (0 + 1 + 1)) then
           (rf09_with k (l, id, o_1.1, o_1.2.1, w64 (o_1.1 - size))).bind fun o_11 =>
            some ((o_11, true))
          else
           none
       else
        bif decide (k2 = Int.ofNat (0 + 1)) then
         bif decide (k2 = Int.ofNat 0) then
          (rf09_with k (l, id, w64 (o_1.2.1 - size), o_1.2)).bind fun o_10 =>
           some ((o_10, true))
         else
          bif decide (k2 = Int.ofNat (0 + 1)) then
           (rf09_with k (l, id, o_1.1, w64 (o_1.2.1 - size), o_1.2.2)).bind fun o_11 =>
            some ((o_11, true))
          else
           bif decide (k2 = Int.ofNat (0 + 1 + 1)) then
            (rf09_with k (l, id, o_1.1, o_1.2.1, w64 (o_1.2.1 - size))).bind fun o_12 =>
             some ((o_12, true))
           else
            none
        else
         bif decide (k2 = Int.ofNat (0 + 1 + 1)) then
          bif decide (k2 = Int.ofNat 0) then
           (rf09_with k (l, id, w64 (o_1.2.2 - size), o_1.2)).bind fun o_11 =>
            some ((o_11, true))
          else
           bif decide (k2 = Int.ofNat (0 + 1)) then
            (rf09_with k (l, id, o_1.1, w64 (o_1.2.2 - size), o_1.2.2)).bind fun o_12 =>
             some ((o_12, true))
           else
            bif decide (k2 = Int.ofNat (0 + 1 + 1)) then
             (rf09_with k (l, id, o_1.1, o_1.2.1, w64 (o_1.2.2 - size))).bind fun o_13 =>
              some ((o_13, true))
            else
             none
         else
          none
     else
      bif decide (k2 = Int.ofNat (0 + 1)) then
       bif decide (o_1.2.1 < size) then
        (rf09_Copy k l).bind fun o_8 =>
         some ((o_8, false))
       else
        bif decide (k2 = Int.ofNat 0) then
         bif decide (k2 = Int.ofNat 0) then
          (rf09_with k (l, id, w64 (o_1.1 - size), o_1.2)).bind fun o_10 =>
           some ((o_10, true))
         else
          bif decide (k2 = Int.ofNat (0 + 1)) then
           (rf09_with k (l, id, o_1.1, w64 (o_1.1 - size), o_1.2.2)).bind fun o_11 =>
            some ((o_11, true))
          else
           bif decide (k2 = Int.ofNat (0 + 1 + 1)) then
            (rf09_with k (l, id, o_1.1, o_1.2.1, w64 (o_1.1 - size))).bind fun o_12 =>
             some ((o_12, true))
           else
            none
        else
         bif decide (k2 = Int.ofNat (0 + 1)) then
          bif decide (k2 = Int.ofNat 0) then
           (rf09_with k (l, id, w64 (o_1.2.1 - size), o_1.2)).bind fun o_11 =>
            some ((o_11, true))
          else
           bif decide (k2 = Int.ofNat (0 + 1)) then
            (rf09_with k (l, id, o_1.1, w64 (o_1.2.1 - size), o_1.2.2)).bind fun o_12 =>
             some ((o_12, true))
           else
            bif decide (k2 = Int.ofNat (0 + 1 + 1)) then
             (rf09_with k (l, id, o_1.1, o_1.2.1, w64 (o_1.2.1 - size))).bind fun o_13 =>
              some ((o_13, true))
            else
             none
         else
          bif decide (k2 = Int.ofNat (0 + 1 + 1)) then
           bif decide (k2 = Int.ofNat 0) then
            (rf09_with k (l, id, w64 (o_1.2.2 - size), o_1.2)).bind fun o_12 =>
             some ((o_12, true))
           else
            bif decide (k2 = Int.ofNat (0 + 1)) then
             (rf09_with k (l, id, o_1.1, w64 (o_1.2.2 - size), o_1.2.2)).bind fun o_13 =>
              some ((o_13, true))
            else
             bif decide (k2 = Int.ofNat (0 + 1 + 1)) then
              (rf09_with k (l, id, o_1.1, o_1.2.1, w64 (o_1.2.2 - size))).bind fun o_14 =>
               some ((o_14, true))
             else
              none
          else
           none
      else
       bif decide (k2 = Int.ofNat (0 + 1 + 1)) then
        bif decide (o_1.2.2 < size) then
         (rf09_Copy k l).bind fun o_9 =>
          some ((o_9, false))
        else
         bif decide (k2 = Int.ofNat 0) then
          bif decide (k2 = Int.ofNat 0) then
           (rf09_with k (l, id, w64 (o_1.1 - size), o_1.2)).bind fun o_11 =>
            some ((o_11, true))
          else
           bif decide (k2 = Int.ofNat (0 + 1)) then
            (rf09_with k (l, id, o_1.1, w64 (o_1.1 - size), o_1.2.2)).bind fun o_12 =>
             some ((o_12, true))
           else
            bif decide (k2 = Int.ofNat (0 + 1 + 1)) then
             (rf09_with k (l, id, o_1.1, o_1.2.1, w64 (o_1.1 - size))).bind fun o_13 =>
              some ((o_13, true))
            else
             none
         else
          bif decide (k2 = Int.ofNat (0 + 1)) then
           bif decide (k2 = Int.ofNat 0) then
            (rf09_with k (l, id, w64 (o_1.2.1 - size), o_1.2)).bind fun o_12 =>
             some ((o_12, true))
           else
            bif decide (k2 = Int.ofNat (0 + 1)) then
             (rf09_with k (l, id, o_1.1, w64 (o_1.2.1 - size), o_1.2.2)).bind fun o_13 =>
              some ((o_13, true))
            else
             bif decide (k2 = Int.ofNat (0 + 1 + 1)) then
              (rf09_with k (l, id, o_1.1, o_1.2.1, w64 (o_1.2.1 - size))).bind fun o_14 =>
               some ((o_14, true))
             else
              none
          else
           bif decide (k2 = Int.ofNat (0 + 1 + 1)) then
            bif decide (k2 = Int.ofNat 0) then
             (rf09_with k (l, id, w64 (o_1.2.2 - size), o_1.2)).bind fun o_13 =>
              some ((o_13, true))
            else
             bif decide (k2 = Int.ofNat (0 + 1)) then
              (rf09_with k (l, id, o_1.1, w64 (o_1.2.2 - size), o_1.2.2)).bind fun o_14 =>
               some ((o_14, true))
             else
              bif decide (k2 = Int.ofNat (0 + 1 + 1)) then
               (rf09_with k (l, id, o_1.1, o_1.2.1, w64 (o_1.2.2 - size))).bind fun o_15 =>
                some ((o_15, true))
              else
               none
           else
            none
       else
        none
   else
    (rf09_Copy k l).bind fun o_4 =>
     some ((o_4, false))
noncomputable def rf09_Release_e := entOf (P := Tryz.prog) (A := [.one (.row 50 kGBooked), .one (.sc (.int .i64)), .one (.sc (.int .i64)), .one (.sc (.int .i64))]) (R := [.one (.row 50 kGBooked), .one (.sc (.bool))]) Tryz.f96 rf09_Release (fun k => ⟨[rf09_Copy_e k, rf09_Used_e k, rf09_class_e k, rf09_with_e k], [], [hkStr Tryz.prog]⟩) [] Tryz.func96 (by kernel_rfl) (by kernel_rfl) trivial (fun k x => by kernel_rfl) fun _ _ => by kernel_rfl
end Ex
namespace Ex
open Go
abbrev zB : GBooked := (0, 0, 0, 0)
abbrev z3 : T48 := (0, 0, 0)
def In62 (n : Int) : Prop := 0 ≤ n ∧ n ≤ 4611686018427387904
def okU (u : T48) : Prop := In62 u.1 ∧ In62 u.2.1 ∧ In62 u.2.2
def okBk (b : GBooked) : Prop := (1 ≤ b.1 ∧ b.1 ≤ 1048576) ∧ b.2 ≠ z3 ∧ okU b.2
def SortL (l : List GBooked) : Prop := l.Pairwise fun a b => a.1 < b.1
def RightL (l : List GBooked) : Prop := (∀ b ∈ l, okBk b) ∧ SortL l
def usedL (l : List GBooked) (id : Int) : T48 := match l.find? (fun b => decide (b.1 = id)) with
  | some b => b.2
  | none => z3
theorem pair_ne : ∀ {l : List GBooked}, (l.Pairwise fun a b => a.1 ≠ b.1) → ∀ {x b : GBooked}, x ∈ l → b ∈ l → x ≠ b → x.1 ≠ b.1
  | [], _, x, b, hx, _, _ => by cases hx
  | y :: r, h, x, b, hx, hb, hne => by
    have h' := List.pairwise_cons.1 h
    rcases List.mem_cons.1 hx with e1 | hx1 <;> rcases List.mem_cons.1 hb with e2 | hb1
    · exact absurd (e1.trans e2.symm) hne
    · rw [e1]; exact h'.1 b hb1
    · rw [e2]; exact fun e => h'.1 x hx1 e.symm
    · exact pair_ne h'.2 hx1 hb1 hne
theorem nodup_len : ∀ {a b : List Int}, a.Nodup → a ⊆ b → a.length ≤ b.length
  | [], b, _, _ => Nat.zero_le _
  | x :: r, b, hn, hs => by
    have hx : x ∈ b := hs (List.mem_cons_self ..)
    have hn' := List.nodup_cons.1 hn
    have h2 := nodup_len (a := r) (b := b.erase x) hn'.2 (fun y hy => (List.mem_erase_of_ne (fun e => hn'.1 (by rw [← e]; exact hy))).2 (hs (List.mem_cons_of_mem _ hy)))
    rw [List.length_erase_of_mem hx] at h2
    have : 0 < b.length := List.length_pos_of_mem hx
    simp only [List.length_cons]; omega
theorem usedL_mem {l : List GBooked} (h : SortL l) {b : GBooked} (hb : b ∈ l) : usedL l b.1 = b.2 := by
  unfold usedL
  have hp : l.Pairwise fun a b => a.1 ≠ b.1 := h.imp fun h e => by omega
  split
  · rename_i x hx
    have h1 := List.mem_of_find?_eq_some hx
    have h2 := List.find?_some hx
    simp only [decide_eq_true_eq] at h2
    have : x = b := by
      by_cases e : x = b
      · exact e
      · exact absurd h2 (pair_ne hp h1 hb e)
    rw [this]
  · rename_i hx
    have := List.find?_eq_none.1 hx b hb
    simp at this
theorem usedL_none {l : List GBooked} {id : Int} (h : ∀ b ∈ l, b.1 ≠ id) : usedL l id = z3 := by
  unfold usedL
  rw [List.find?_eq_none.2 (fun b hb => by simpa using h b hb)]
theorem usedL_cases (l : List GBooked) (id : Int) : (∃ b ∈ l, b.1 = id ∧ usedL l id = b.2) ∨ ((∀ b ∈ l, b.1 ≠ id) ∧ usedL l id = z3) := by
  unfold usedL
  split
  · rename_i x hx
    have h2 := List.find?_some hx
    simp only [decide_eq_true_eq] at h2
    exact .inl ⟨x, List.mem_of_find?_eq_some hx, h2, rfl⟩
  · rename_i hx
    exact .inr ⟨fun b hb e => by have := List.find?_eq_none.1 hx b hb; simp at this; exact this e, rfl⟩
theorem usedL_ok {l : List GBooked} (h : RightL l) (id : Int) : okU (usedL l id) := by
  rcases usedL_cases l id with ⟨b, hb, _, e⟩ | ⟨_, e⟩
  · rw [e]; exact (h.1 b hb).2.2
  · rw [e]; unfold okU In62; simp only; omega
theorem SortL.filter {l : List GBooked} (h : SortL l) (p : GBooked → Bool) : SortL (l.filter p) := List.Pairwise.filter p h
theorem RightL.filter {l : List GBooked} (h : RightL l) (p : GBooked → Bool) : RightL (l.filter p) := ⟨fun b hb => h.1 b (List.mem_filter.1 hb).1, h.2.filter p⟩
theorem RightL.nil : RightL [] := ⟨fun b hb => (by cases hb), List.Pairwise.nil⟩
def oneL (id : Int) (u : T48) : List GBooked := bif decide (u = z3) then [] else [(id, u)]
def withL (l : List GBooked) (id : Int) (u : T48) : List GBooked := l.filter (fun b => decide (b.1 < id)) ++ (oneL id u ++ l.filter (fun b => decide (id < b.1)))
theorem mem_oneL {id : Int} {u : T48} {b : GBooked} : b ∈ oneL id u ↔ u ≠ z3 ∧ b = (id, u) := by
  unfold oneL
  by_cases h : u = z3
  · rw [dcT h]; simp [h]
  · rw [dcF h]; simp [h]
theorem mem_withL {l : List GBooked} {id : Int} {u : T48} {b : GBooked} : b ∈ withL l id u ↔ (b ∈ l ∧ b.1 ≠ id) ∨ (u ≠ z3 ∧ b = (id, u)) := by
  unfold withL
  simp only [List.mem_append, List.mem_filter, decide_eq_true_eq, mem_oneL]
  constructor
  · rintro (⟨h, h1⟩ | h | ⟨h, h1⟩)
    · exact .inl ⟨h, by omega⟩
    · exact .inr h
    · exact .inl ⟨h, by omega⟩
  · rintro (⟨h, h1⟩ | h)
    · rcases Int.lt_or_gt_of_ne h1 with h2 | h2
      · exact .inl ⟨h, h2⟩
      · exact .inr (.inr ⟨h, h2⟩)
    · exact .inr (.inl h)
theorem withL_sort {l : List GBooked} (h : SortL l) (id : Int) (u : T48) : SortL (withL l id u) := by
  unfold withL SortL
  refine List.pairwise_append.2 ⟨h.filter _, List.pairwise_append.2 ⟨?_, h.filter _, ?_⟩, ?_⟩
  · unfold oneL
    cases decide (u = z3)
    · exact List.pairwise_singleton _ _
    · exact List.Pairwise.nil
  · intro a ha b hb
    rw [mem_oneL] at ha
    have := (List.mem_filter.1 hb).2
    simp only [decide_eq_true_eq] at this
    rw [ha.2]
    exact this
  · intro a ha b hb
    have h1 := (List.mem_filter.1 ha).2
    simp only [decide_eq_true_eq] at h1
    rcases List.mem_append.1 hb with hb | hb
    · rw [mem_oneL] at hb
      rw [hb.2]
      exact h1
    · have := (List.mem_filter.1 hb).2
      simp only [decide_eq_true_eq] at this
      omega
theorem withL_right {l : List GBooked} (h : RightL l) {id : Int} {u : T48} (hid : 1 ≤ id ∧ id ≤ 1048576) (hu : okU u) : RightL (withL l id u) := by
  refine ⟨fun b hb => ?_, withL_sort h.2 id u⟩
  rcases mem_withL.1 hb with ⟨hb, _⟩ | ⟨hn, rfl⟩
  · exact h.1 b hb
  · exact ⟨hid, hn, hu⟩
theorem usedL_with {l : List GBooked} (h : SortL l) (id : Int) (u : T48) (j : Int) : usedL (withL l id u) j = if j = id then u else usedL l j := by
  have hs := withL_sort h id u
  split
  · rename_i e
    subst e
    by_cases hu : u = z3
    · refine (usedL_none fun b hb => ?_).trans hu.symm
      rcases mem_withL.1 hb with h5 | h5
      · exact h5.2
      · exact absurd hu h5.1
    · exact usedL_mem hs (b := (j, u)) (mem_withL.2 (.inr ⟨hu, rfl⟩))
  · rename_i hne
    rcases usedL_cases l j with ⟨b, hb, e1, e2⟩ | ⟨h1, e2⟩
    · rw [e2]
      subst e1
      exact usedL_mem hs (mem_withL.2 (.inl ⟨hb, hne⟩))
    · rw [e2]
      exact usedL_none fun b hb => by
        rcases mem_withL.1 hb with ⟨hb, _⟩ | ⟨_, e⟩
        · exact h1 b hb
        · rw [e]; exact fun e => hne e.symm
theorem right_len {l : List GBooked} {cs : List GContact} (h : SortL l) (hc : ∀ b ∈ l, ∃ c ∈ cs, c.1 = b.1) : l.length ≤ cs.length := by
  have n1 : (l.map (·.1)).Nodup := List.pairwise_map.2 (h.imp fun h e => by omega)
  have hs : l.map (·.1) ⊆ cs.map (·.1) := fun x hx => by
    obtain ⟨b, hb, rfl⟩ := List.mem_map.1 hx
    obtain ⟨c, hc, e⟩ := hc b hb
    rw [← e]
    exact List.mem_map.2 ⟨c, hc, rfl⟩
  have := nodup_len n1 hs
  simpa using this
def dropL (l : List GBooked) (ids : List Int) : List GBooked := l.filter fun b => !decide (b.1 ∈ ids)
theorem usedL_drop {l : List GBooked} (h : SortL l) (ids : List Int) (j : Int) : usedL (dropL l ids) j = if j ∈ ids then z3 else usedL l j := by
  split
  · rename_i hj
    exact usedL_none fun b hb e => by
      have := (List.mem_filter.1 hb).2
      rw [e] at this
      simp [hj] at this
  · rename_i hj
    rcases usedL_cases l j with ⟨b, hb, e1, e2⟩ | ⟨h1, e2⟩
    · rw [e2]
      subst e1
      exact usedL_mem (h.filter _) (List.mem_filter.2 ⟨hb, by simpa using hj⟩)
    · rw [e2]
      exact usedL_none fun b hb => h1 b (List.mem_filter.1 hb).1
theorem drop_nil (l : List GBooked) : dropL l [] = l := by
  unfold dropL
  exact List.filter_eq_self.2 fun b _ => by simp
end Ex
namespace Ex
open Go Go.RowKit
open Tryz
set_option maxHeartbeats 4000000 in
set_option maxRecDepth 100000 in
theorem grow_nil (n : Nat) (w : World) (h : n * 32 ≤ 140737488355328) : Calls Tryz.prog 198 #[.slice none 0 0, .int .i64 n] w fun e w' => ∃ v, e = .returned v ∧ w'.ownsRow w.heap.size 50 4 v 0 [] ∧ Below w.heap.size w w' := by
  by_cases hn : n = 0
  · subst hn
    go_enter Tryz.func198, Tryz.ntmps198
    go_wp2
    go_ret
    exact ⟨_, rfl, World.ownsRow_nil _ _ _ _, Below.refl _ _⟩
  · obtain ⟨i0, hi0, hz0, hzs, hzb⟩ := info_parts (P := Tryz.prog) (e := 50) (z := .agg #[.int .i64 0, .int .i64 0, .int .i64 0, .int .i64 0]) (size := 4) (bytes := 32) (by kernel_rfl)
    obtain ⟨G, hG⟩ : ∃ G, G = grownCap w n 0 50 := ⟨_, rfl⟩
    obtain ⟨ROW, hROW⟩ : ∃ ROW : Array Value, ROW = Builtin.zeroCells (Value.agg #[.int .i64 0, .int .i64 0, .int .i64 0, .int .i64 0]).cells n ++ Builtin.zeroCells (Value.agg #[.int .i64 0, .int .i64 0, .int .i64 0, .int .i64 0]).cells (G - n) := ⟨_, rfl⟩
    have hrz : ∀ ty, (Builtin.append_ #[26, 3] ty #[.slice none 0 0, .int .i64 n]).run Tryz.prog w = .ok (.slice (some ⟨w.heap.size, 0, none⟩) n G) (w.drew.alloc (.cells ROW 50)) := fun ty => by
      have h := Lib.run_append_nil_zeros (P := Tryz.prog) w 26 3 ty 50 i0 _ .i64 .i64 Tryz.underlying26 Tryz.underlying3 hi0 hz0 n (by omega) (by omega) (by omega) (by rw [hzb]; omega)
      rw [hROW, hG]
      exact h
    have hGn : n ≤ G := by rw [hG]; exact grownCap_ge w _ _ _
    have hGm : G ≤ maxLen := by rw [hG]; exact grownCap_le_maxLen w n 0 50 (by unfold maxLen; omega)
    have hRs : ROW.size = G * 4 := by
      rw [hROW]
      simp [Builtin.zeroCells, Value.cells]
      omega
    have hG0 : ¬ (G = 0) := by omega
    have hn1 : (0 : Int) < (n : Int) := by omega
    have hn2 : ¬ ((n : Int) < 0) := by omega
    have hG63 : G ≤ 9223372036854775807 := by unfold maxLen at hGm; omega
    have hw1 : IntKind.i64.wrap (n : Int) = n := by rw [IntKind.wrap_i64]; omega
    clear hROW hG
    go_enter Tryz.func198, Tryz.ntmps198
    go_wp2_with (at_builtin; refine Lib.wpList_append_run _ rfl _ _ 26 3 rfl _ _ rfl rfl _ _ (hrz _) ?_)
    go_ret
    refine ⟨_, rfl, ⟨rfl, .inr ⟨w.heap.size, G, ROW, rfl, Nat.le_refl _, Array.getElem?_push_size, by omega, hGm, hRs, by simp⟩⟩, ((Below.refl _ _).drew).alloc (Nat.le_refl _) _⟩
section
variable {w0 : Org} {N : Nat} {S : AS} {o : Oper} {ρ : Type} {r : ρ} {id0 : Nat}
abbrev kGrw : List SK := [.int .i64, .int .i64, .int .i64, .int .i64]
def growN (S : AS) (o : Oper) : Option Int := match o.op with
  | .call c => match c.callee with
    | .value f => match S.ev f, c.args.toList.map S.ev with
      | .fn g [], [.v (.slice none 0 0), .v (.int .i64 n)] => bif Nat.beq g 198 then some n else none
      | _, _ => none
    | _ => none
  | _ => none
def growRun (S : AS) (id0 : Nat) (o : Oper) (κ : Eff → Option ρ) : Option ρ := match growN S o with
  | some n => bif decide (0 ≤ n) && decide (n * 32 ≤ 140737488355328) then κ ⟨retPV (enPs id0 [.one (.row 50 kGrw)] ([] : List (Tup kGrw))).1, numb id0 (enPs id0 [.one (.row 50 kGrw)] ([] : List (Tup kGrw))).2⟩ else none
  | none => none
theorem grow_ok {κ : Eff → Option ρ} (h : growRun S id0 o κ = some r) : Sound Tryz.prog w0 N S id0 o κ r := by
  unfold growRun at h
  split at h
  · rename_i n hn
    rcases cond_some h with ⟨hc, hk⟩ | ⟨_, h2⟩
    · simp only [Bool.and_eq_true, decide_eq_true_eq] at hc
      clear h
      unfold growN at hn
      split at hn
      · rename_i c ho
        obtain ⟨callee, args, ts⟩ := c
        split at hn
        · rename_i f hf0
          have hf0 : callee = .value f := hf0
          subst hf0
          split at hn
          · rename_i g n' hfv hargs
            have hargs : args.toList.map S.ev = [.v (.slice none 0 0), .v (.int .i64 n')] := hargs
            rcases cond_some hn with ⟨hg, hn⟩ | ⟨_, h2⟩
            · have hg := Nat.eq_of_beq_eq_true hg
              subst hg
              obtain rfl := Option.some.inj hn
              refine ⟨_, hk, ?_⟩
              intro S' m a w hl hf hr K Q hK
              have hr0 := hr.le hl
              have h1 := hr0.ev f
              rw [hfv] at h1
              generalize hz : a.eval f = z at h1
              cases h1 with | fn h1 =>
              cases h1
              have h2 := evs_ok hr0 args.toList
              rw [hargs] at h2
              generalize hzz : args.toList.map a.eval = zs at h2
              cases h2 with | cons h3 h2 =>
              cases h3
              cases h2 with | cons h3 h2 =>
              cases h3
              cases h2
              obtain ⟨n, rfl⟩ : ∃ m : Nat, n' = (m : Int) := ⟨n'.toNat, by omega⟩
              have hcall := grow_nil n w (by omega)
              have hrun : (execOp a.eval o).run Tryz.prog w = .ok (.enter 198 #[.slice none 0 0, .int .i64 n]) w := by
                have he : ∀ (args : Array Value) (w : World), (callFunc 198 args).run Tryz.prog w = .ok (.enter 198 args) w := fun _ _ => by kernel_rfl
                have he := he #[.slice none 0 0, .int .i64 n] w
                have hm : args.map a.eval = #[.slice none 0 0, .int .i64 n] := by
                  apply Array.ext'
                  simpa using hzz
                unfold execOp
                simp [ho, resolve, Deferred.ofValue, invoke, hz, hm]
              unfold Oper.wp
              rw [hrun, Oper.upon_enter]
              refine hcall.mono fun en w' hh => ?_
              obtain ⟨v, rfl, hret, hb⟩ := hh
              have hrets : Rets [.one (.row 50 kGrw)] w w' ([] : List (Tup kGrw)) v := ⟨⟨[v], [v], fun _ => False, rfl, ⟨v, rfl, rfl, [], hret, RowsIs.nil⟩, ⟨fun u hu => (by cases hu), trivial⟩, fun u hu k hk hf => hf, fun k hk => hk.elim⟩⟩
              obtain ⟨m', hg, hh', hv⟩ := Heap.call hr.heap hf hrets hb (Nat.le_of_ble_eq_true rfl)
              exact hK m' w' v hg hh' hv
            · cases h2
          · cases hn
        · cases hn
      · cases hn
    · cases h2
  · cases h
def hkGrow : Hook Tryz.prog := ⟨fun S o => (growN S o).isSome, fun S id0 o κ => growRun S id0 o κ, fun _ h => grow_ok h⟩
end
end Ex
namespace Ex
open Go
set_option maxHeartbeats 0
def slices_ConcatB_L1 : Nat → ((List GBooked) × (List (List GBooked)) × Int × Int) → Option ((List GBooked) ⊕ (List GBooked))
  | 0, _ => none
  | k + 1, (newslice, t25, t26, t27) =>
  bif decide (t27 < t26) then
  bif decide (0 ≤ t27) then
   bif decide (t27 < Int.ofNat (List.length t25)) then
    bif decide ((List.length newslice + List.length (List.getD t25 (Int.toNat t27) [])) * 32 ≤ 140737488355328) then
     slices_ConcatB_L1 k (newslice ++ List.getD t25 (Int.toNat t27) [], t25, t26, w64 (t27 + 1))
    else
     none
   else
    none
  else
   none
 else
  some (Sum.inl newslice)
def slices_ConcatB_L0 : Nat → ((List (List GBooked)) × Int × (List (List GBooked)) × Int × Int) → Option (((List (List GBooked)) × Int) ⊕ (List GBooked))
  | 0, _ => none
  | k + 1, (slices, size, t9, t10, t11) =>
  bif decide (t11 < t10) then
  bif decide (0 ≤ t11) then
   bif decide (t11 < Int.ofNat (List.length t9)) then
    bif decide (w64 (size + Int.ofNat (List.length (List.getD t9 (Int.toNat t11) []))) < 0) then
     none
    else
     slices_ConcatB_L0 k (slices, w64 (size + Int.ofNat (List.length (List.getD t9 (Int.toNat t11) []))), t9, t10, w64 (t11 + 1))
   else
    none
  else
   none
 else
  some (Sum.inl (slices, size))
def slices_ConcatB (k : Nat) : (List (List GBooked)) → Option (List GBooked) := fun (slices) =>
  (slices_ConcatB_L0 k (slices, 0, slices, Int.ofNat (List.length slices), 0)).bind fun o_1 =>
  match o_1 with
  | .inl o_2 =>
   bif decide (0 ≤ o_2.2) && decide (o_2.2 * 32 ≤ 140737488355328) then
    (slices_ConcatB_L1 k ([], o_2.1, Int.ofNat (List.length o_2.1), 0)).bind fun o_4 =>
     match o_4 with
     | .inl o_5 =>
      some (o_5)
     | .inr o_5 =>
      some (o_5)
   else
    none
  | .inr o_2 =>
   some (o_2)
noncomputable def slices_ConcatB_e := entOf (P := Tryz.prog) (A := [.one (.row 26 [.row kGBooked])]) (R := [.one (.row 50 kGBooked)]) Tryz.f156 slices_ConcatB (fun k => ⟨[], [], [hkGrow, hkStr Tryz.prog]⟩) [some ⟨0, [(0, .one (.ro [.row kGBooked])), (3, .one (.sc (.int .i64))), (9, .one (.ro [.row kGBooked])), (10, .one (.sc (.int .i64))), (11, .one (.sc (.int .i64)))], [(0, .one (.ro [.row kGBooked])), (3, .one (.sc (.int .i64)))], slices_ConcatB_L0⟩, some ⟨2, [(6, .one (.own 50 kGBooked)), (25, .one (.ro [.row kGBooked])), (26, .one (.sc (.int .i64))), (27, .one (.sc (.int .i64)))], [(6, .one (.own 50 kGBooked))], slices_ConcatB_L1⟩] Tryz.func156 (by kernel_rfl) (by kernel_rfl) ⟨⟨fun _ => rfl, fun k x => by kernel_rfl⟩, ⟨⟨fun _ => rfl, fun k x => by kernel_rfl⟩, trivial⟩⟩ (fun k x => by kernel_rfl) fun _ _ => by kernel_rfl
def ledger_with (k : Nat) : ((List GBooked) × Int × T48) → Option (List GBooked) := fun (l, id, used) =>
  (ledger_at k (l, id)).bind fun o_1 =>
  bif o_1.2 then
   bif decide (0 ≤ o_1.1) then
    bif decide (o_1.1 ≤ Int.ofNat (List.length l)) then
     bif decide (1 ≤ Int.ofNat (List.length (List.drop (Int.toNat o_1.1) l))) then
      bif used.1 == 0 && (used.2.1 == 0 && used.2.2 == 0) then
       bif decide (0 ≤ o_1.1) then
        bif decide (o_1.1 ≤ Int.ofNat (List.length l)) then
         (slices_ConcatB k [List.take (Int.toNat o_1.1) l, List.drop (Int.toNat 1) (List.drop (Int.toNat o_1.1) l)]).bind fun o_9 =>
          some (o_9)
        else
         none
       else
        none
      else
       bif decide (0 ≤ o_1.1) then
        bif decide (o_1.1 ≤ Int.ofNat (List.length l)) then
         (slices_ConcatB k [List.take (Int.toNat o_1.1) l, [(id, used)], List.drop (Int.toNat 1) (List.drop (Int.toNat o_1.1) l)]).bind fun o_9 =>
          some (o_9)
        else
         none
       else
        none
     else
      none
    else
     none
   else
    none
  else
   bif decide (0 ≤ o_1.1) then
    bif decide (o_1.1 ≤ Int.ofNat (List.length l)) then
     bif used.1 == 0 && (used.2.1 == 0 && used.2.2 == 0) then
      bif decide (0 ≤ o_1.1) then
       bif decide (o_1.1 ≤ Int.ofNat (List.length l)) then
        (slices_ConcatB k [List.take (Int.toNat o_1.1) l, List.drop (Int.toNat o_1.1) l]).bind fun o_8 =>
         some (o_8)
       else
        none
      else
       none
     else
      bif decide (0 ≤ o_1.1) then
       bif decide (o_1.1 ≤ Int.ofNat (List.length l)) then
        (slices_ConcatB k [List.take (Int.toNat o_1.1) l, [(id, used)], List.drop (Int.toNat o_1.1) l]).bind fun o_8 =>
         some (o_8)
       else
        none
      else
       none
    else
     none
   else
    none
noncomputable def ledger_with_e := entOf (P := Tryz.prog) (A := [.one (.row 50 kGBooked), .one (.sc (.int .i64)), .agg lT48]) (R := [.one (.row 50 kGBooked)]) Tryz.f100 ledger_with (fun k => ⟨[ledger_at_e k, slices_ConcatB_e k], [], [hkStr Tryz.prog]⟩) [] Tryz.func100 (by kernel_rfl) (by kernel_rfl) trivial (fun k x => by kernel_rfl) fun _ _ => by kernel_rfl
def ledger_Book (k : Nat) : ((List GBooked) × GContact × Int × Int) → Option ((List GBooked) × Bool) := fun (l, c1, k2, size) =>
  (check_Contact k c1).bind fun o_1 =>
  bif o_1 then
   (ledger_class k k2).bind fun o_3 =>
    bif o_3 then
     bif decide (size < 0) then
      (slices_Clone_api_Booked_api_Booked k l).bind fun o_6 =>
       some ((o_6, false))
     else
      (ledger_Room k (l, c1, k2)).bind fun o_6 =>
       bif decide (o_6 < size) then
        (slices_Clone_api_Booked_api_Booked k l).bind fun o_8 =>
         some ((o_8, false))
       else
        (ledger_Used k (l, c1.1)).bind fun o_8 =>
         bif decide (k2 = Int.ofNat 0) then
          bif decide (k2 = Int.ofNat 0) then
           (ledger_with k (l, c1.1, w64 (o_8.1 + size), o_8.2)).bind fun o_11 =>
            some ((o_11, true))
          else
           bif decide (k2 = Int.ofNat (0 + 1)) then
            (ledger_with k (l, c1.1, o_8.1, w64 (o_8.1 + size), o_8.2.2)).bind fun o_12 =>
             some ((o_12, true))
           else
            bif decide (k2 = Int.ofNat (0 + 1 + 1)) then
             (ledger_with k (l, c1.1, o_8.1, o_8.2.1, w64 (o_8.1 + size))).bind fun o_13 =>
              some ((o_13, true))
            else
             none
         else
          bif decide (k2 = Int.ofNat (0 + 1)) then
           bif decide (k2 = Int.ofNat 0) then
            (ledger_with k (l, c1.1, w64 (o_8.2.1 + size), o_8.2)).bind fun o_12 =>
             some ((o_12, true))
           else
            bif decide (k2 = Int.ofNat (0 + 1)) then
             (ledger_with k (l, c1.1, o_8.1, w64 (o_8.2.1 + size), o_8.2.2)).bind fun o_13 =>
              some ((o_13, true))
            else
             bif decide (k2 = Int.ofNat (0 + 1 + 1)) then
              (ledger_with k (l, c1.1, o_8.1, o_8.2.1, w64 (o_8.2.1 + size))).bind fun o_14 =>
               some ((o_14, true))
             else
              none
          else
           bif decide (k2 = Int.ofNat (0 + 1 + 1)) then
            bif decide (k2 = Int.ofNat 0) then
             (ledger_with k (l, c1.1, w64 (o_8.2.2 + size), o_8.2)).bind fun o_13 =>
              some ((o_13, true))
            else
             bif decide (k2 = Int.ofNat (0 + 1)) then
              (ledger_with k (l, c1.1, o_8.1, w64 (o_8.2.2 + size), o_8.2.2)).bind fun o_14 =>
               some ((o_14, true))
             else
              bif decide (k2 = Int.ofNat (0 + 1 + 1)) then
               (ledger_with k (l, c1.1, o_8.1, o_8.2.1, w64 (o_8.2.2 + size))).bind fun o_15 =>
                some ((o_15, true))
              else
               none
           else
            none
    else
     (slices_Clone_api_Booked_api_Booked k l).bind fun o_5 =>
      some ((o_5, false))
  else
   (slices_Clone_api_Booked_api_Booked k l).bind fun o_3 =>
    some ((o_3, false))
noncomputable def ledger_Book_e := entOf (P := Tryz.prog) (A := [.one (.row 50 kGBooked), .agg lGContact, .one (.sc (.int .i64)), .one (.sc (.int .i64))]) (R := [.one (.row 50 kGBooked), .one (.sc (.bool))]) Tryz.f56 ledger_Book (fun k => ⟨[ledger_Room_e k, ledger_Used_e k, ledger_class_e k, check_Contact_e k, slices_Clone_api_Booked_api_Booked_e k, ledger_with_e k], [], [hkStr Tryz.prog]⟩) [] Tryz.func56 (by kernel_rfl) (by kernel_rfl) trivial (fun k x => by kernel_rfl) fun _ _ => by kernel_rfl
def ledger_Release (k : Nat) : ((List GBooked) × Int × Int × Int) → Option ((List GBooked) × Bool) := fun (l, id, k2, size) =>
  (ledger_Used k (l, id)).bind fun o_1 =>
  (ledger_class k k2).bind fun o_2 =>
   bif o_2 then
    bif decide (size < 0) then
     (slices_Clone_api_Booked_api_Booked k l).bind fun o_5 =>
      some ((o_5, false))
    else
     bif decide (k2 = Int.ofNat 0) then
      bif decide (o_1.1 < size) then
       (slices_Clone_api_Booked_api_Booked k l).bind fun o_7 =>
        some ((o_7, false))
      else
       bif decide (k2 = Int.ofNat 0) then
        bif decide (k2 = Int.ofNat 0) then
         (ledger_with k (l, id, w64 (o_1.1 - size), o_1.2)).bind fun o_9 =>
          some ((o_9, true))
        else
         bif decide (k2 = Int.ofNat (0 + 1)) then
          (ledger_with k (l, id, o_1.1, w64 (o_1.1 - size), o_1.2.2)).bind fun o_10 =>
           some ((o_10, true))
         else
          bif decide (k2 = Int.ofNat (0 + 1 + 1)) then
           (ledger_with k (l, id, o_1.1, o_1.2.1, w64 (o_1.1 - size))).bind fun o_11 =>
            some ((o_11, true))
          else
           none
       else
        bif decide (k2 = Int.ofNat (0 + 1)) then
         bif decide (k2 = Int.ofNat 0) then
          (ledger_with k (l, id, w64 (o_1.2.1 - size), o_1.2)).bind fun o_10 =>
           some ((o_10, true))
         else
          bif decide (k2 = Int.ofNat (0 + 1)) then
           (ledger_with k (l, id, o_1.1, w64 (o_1.2.1 - size), o_1.2.2)).bind fun o_11 =>
            some ((o_11, true))
          else
           bif decide (k2 = Int.ofNat (0 + 1 + 1)) then
            (ledger_with k (l, id, o_1.1, o_1.2.1, w64 (o_1.2.1 - size))).bind fun o_12 =>
             some ((o_12, true))
           else
            none
        else
         bif decide (k2 = Int.ofNat (0 + 1 + 1)) then
          bif decide (k2 = Int.ofNat 0) then
           (ledger_with k (l, id, w64 (o_1.2.2 - size), o_1.2)).bind fun o_11 =>
            some ((o_11, true))
          else
           bif decide (k2 = Int.ofNat (0 + 1)) then
            (ledger_with k (l, id, o_1.1, w64 (o_1.2.2 - size), o_1.2.2)).bind fun o_12 =>
             some ((o_12, true))
           else
            bif decide (k2 = Int.ofNat (0 + 1 + 1)) then
             (ledger_with k (l, id, o_1.1, o_1.2.1, w64 (o_1.2.2 - size))).bind fun o_13 =>
              some ((o_13, true))
            else
             none
         else
          none
     else
      bif decide (k2 = Int.ofNat (0 + 1)) then
       bif decide (o_1.2.1 < size) then
        (slices_Clone_api_Booked_api_Booked k l).bind fun o_8 =>
         some ((o_8, false))
       else
        bif decide (k2 = Int.ofNat 0) then
         bif decide (k2 = Int.ofNat 0) then
          (ledger_with k (l, id, w64 (o_1.1 - size), o_1.2)).bind fun o_10 =>
           some ((o_10, true))
         else
          bif decide (k2 = Int.ofNat (0 + 1)) then
           (ledger_with k (l, id, o_1.1, w64 (o_1.1 - size), o_1.2.2)).bind fun o_11 =>
            some ((o_11, true))
          else
           bif decide (k2 = Int.ofNat (0 + 1 + 1)) then
            (ledger_with k (l, id, o_1.1, o_1.2.1, w64 (o_1.1 - size))).bind fun o_12 =>
             some ((o_12, true))
           else
            none
        else
         bif decide (k2 = Int.ofNat (0 + 1)) then
          bif decide (k2 = Int.ofNat 0) then
           (ledger_with k (l, id, w64 (o_1.2.1 - size), o_1.2)).bind fun o_11 =>
            some ((o_11, true))
          else
           bif decide (k2 = Int.ofNat (0 + 1)) then
            (ledger_with k (l, id, o_1.1, w64 (o_1.2.1 - size), o_1.2.2)).bind fun o_12 =>
             some ((o_12, true))
           else
            bif decide (k2 = Int.ofNat (0 + 1 + 1)) then
             (ledger_with k (l, id, o_1.1, o_1.2.1, w64 (o_1.2.1 - size))).bind fun o_13 =>
              some ((o_13, true))
            else
             none
         else
          bif decide (k2 = Int.ofNat (0 + 1 + 1)) then
           bif decide (k2 = Int.ofNat 0) then
            (ledger_with k (l, id, w64 (o_1.2.2 - size), o_1.2)).bind fun o_12 =>
             some ((o_12, true))
           else
            bif decide (k2 = Int.ofNat (0 + 1)) then
             (ledger_with k (l, id, o_1.1, w64 (o_1.2.2 - size), o_1.2.2)).bind fun o_13 =>
              some ((o_13, true))
            else
             bif decide (k2 = Int.ofNat (0 + 1 + 1)) then
              (ledger_with k (l, id, o_1.1, o_1.2.1, w64 (o_1.2.2 - size))).bind fun o_14 =>
               some ((o_14, true))
             else
              none
          else
           none
      else
       bif decide (k2 = Int.ofNat (0 + 1 + 1)) then
        bif decide (o_1.2.2 < size) then
         (slices_Clone_api_Booked_api_Booked k l).bind fun o_9 =>
          some ((o_9, false))
        else
         bif decide (k2 = Int.ofNat 0) then
          bif decide (k2 = Int.ofNat 0) then
           (ledger_with k (l, id, w64 (o_1.1 - size), o_1.2)).bind fun o_11 =>
            some ((o_11, true))
          else
           bif decide (k2 = Int.ofNat (0 + 1)) then
            (ledger_with k (l, id, o_1.1, w64 (o_1.1 - size), o_1.2.2)).bind fun o_12 =>
             some ((o_12, true))
           else
            bif decide (k2 = Int.ofNat (0 + 1 + 1)) then
             (ledger_with k (l, id, o_1.1, o_1.2.1, w64 (o_1.1 - size))).bind fun o_13 =>
              some ((o_13, true))
            else
             none
         else
          bif decide (k2 = Int.ofNat (0 + 1)) then
           bif decide (k2 = Int.ofNat 0) then
            (ledger_with k (l, id, w64 (o_1.2.1 - size), o_1.2)).bind fun o_12 =>
             some ((o_12, true))
           else
            bif decide (k2 = Int.ofNat (0 + 1)) then
             (ledger_with k (l, id, o_1.1, w64 (o_1.2.1 - size), o_1.2.2)).bind fun o_13 =>
              some ((o_13, true))
            else
             bif decide (k2 = Int.ofNat (0 + 1 + 1)) then
              (ledger_with k (l, id, o_1.1, o_1.2.1, w64 (o_1.2.1 - size))).bind fun o_14 =>
               some ((o_14, true))
             else
              none
          else
           bif decide (k2 = Int.ofNat (0 + 1 + 1)) then
            bif decide (k2 = Int.ofNat 0) then
             (ledger_with k (l, id, w64 (o_1.2.2 - size), o_1.2)).bind fun o_13 =>
              some ((o_13, true))
            else
             bif decide (k2 = Int.ofNat (0 + 1)) then
              (ledger_with k (l, id, o_1.1, w64 (o_1.2.2 - size), o_1.2.2)).bind fun o_14 =>
               some ((o_14, true))
             else
              bif decide (k2 = Int.ofNat (0 + 1 + 1)) then
               (ledger_with k (l, id, o_1.1, o_1.2.1, w64 (o_1.2.2 - size))).bind fun o_15 =>
                some ((o_15, true))
              else
               none
           else
            none
       else
        none
   else
    (slices_Clone_api_Booked_api_Booked k l).bind fun o_4 =>
     some ((o_4, false))
noncomputable def ledger_Release_e := entOf (P := Tryz.prog) (A := [.one (.row 50 kGBooked), .one (.sc (.int .i64)), .one (.sc (.int .i64)), .one (.sc (.int .i64))]) (R := [.one (.row 50 kGBooked), .one (.sc (.bool))]) Tryz.f62 ledger_Release (fun k => ⟨[ledger_Used_e k, ledger_class_e k, slices_Clone_api_Booked_api_Booked_e k, ledger_with_e k], [], [hkStr Tryz.prog]⟩) [] Tryz.func62 (by kernel_rfl) (by kernel_rfl) trivial (fun k x => by kernel_rfl) fun _ _ => by kernel_rfl
end Ex
namespace Ex
open Go
theorem getB {l : List GBooked} {i : Nat} (h : i < l.length) : l.getD i zB = l[i] := by rw [List.getD_eq_getElem?_getD, List.getElem?_eq_getElem h]; rfl
theorem SortL.at {l : List GBooked} (h : SortL l) : ∀ i j, i < j → j < l.length → (l.getD i zB).1 < (l.getD j zB).1 := fun i j hij hj => by
  rw [getB (by omega), getB hj]
  exact List.pairwise_iff_getElem.1 h i j (by omega) hj hij
theorem cmpI_lt (a b : Int) : cmpI a b < 0 ↔ a < b := by unfold cmpI; split <;> (try split) <;> omega
theorem cmpI_0 (a b : Int) : cmpI a b = 0 ↔ a = b := by unfold cmpI; split <;> (try split) <;> omega
theorem at1_spec (k : Nat) (b : GBooked) (id : Int) : ledger_at_1 k (b, id) = some (cmpI b.1 id) := by
  unfold ledger_at_1
  simp only [cmp_Compare_spec, Option.bind_some]
theorem BSL_L0 (l : List GBooked) (t n : Int) (hs : l.length ≤ 1000000000) (hsort : SortL l) : ∀ (m i j k : Nat), j - i ≤ m → m < k → i ≤ j → j ≤ l.length → (∀ q, q < i → (l.getD q zB).1 < t) → (∀ q, j ≤ q → q < l.length → t ≤ (l.getD q zB).1) →
    ∃ r, r ≤ l.length ∧ (∀ q, q < r → (l.getD q zB).1 < t) ∧ (∀ q, r ≤ q → q < l.length → t ≤ (l.getD q zB).1) ∧ BinarySearchFunc_B_L0 k (l, t, (), n, (i : Int), (j : Int)) = some (.inl (l, t, (), n, (r : Int)))
  | m, i, j, k + 1, hm, hk, hij, hj, h1, h2 => by
    by_cases hlt : i < j
    · have hh : (i + j) / 2 < j ∧ i ≤ (i + j) / 2 := by omega
      have hcmp := at1_spec k (l.getD ((i + j) / 2) zB) t
      obtain ⟨m', rfl⟩ : ∃ m', m = m' + 1 := ⟨m - 1, by omega⟩
      simp only [BinarySearchFunc_B_L0]
      rw [dcT (by omega : (i : Int) < (j : Int)), mid_id (by omega), dcT (Int.natCast_nonneg ((i + j) / 2)), i_lt, dcT (by omega : (i + j) / 2 < l.length), Int.toNat_natCast]
      simp only [cond_true, hcmp, Option.bind_some, w64_succ (by omega : (i + j) / 2 < 4611686018427387904)]
      by_cases hc : (l.getD ((i + j) / 2) zB).1 < t
      · rw [dcT ((cmpI_lt _ _).2 hc)]
        exact BSL_L0 l t n hs hsort m' ((i + j) / 2 + 1) j k (by omega) (by omega) (by omega) hj (fun q hq => by
          rcases Nat.eq_or_lt_of_le (Nat.lt_succ_iff.1 hq) with rfl | hq
          · exact hc
          · have := hsort.at q _ hq (by omega)
            omega) h2
      · rw [dcF (fun h => hc ((cmpI_lt _ _).1 h))]
        refine BSL_L0 l t n hs hsort m' i ((i + j) / 2) k (by omega) (by omega) (by omega) (by omega) h1 (fun q hq hql => ?_)
        rcases Nat.eq_or_lt_of_le hq with rfl | hq
        · omega
        · have := hsort.at _ q hq hql
          omega
    · refine ⟨i, by omega, h1, fun q hq => h2 q (by omega), ?_⟩
      simp only [BinarySearchFunc_B_L0]
      rw [dcF (by omega)]
      rfl
theorem at_spec (l : List GBooked) (t : Int) (k : Nat) (hs : l.length ≤ 1000000000) (hsort : SortL l) (hk : l.length < k) :
    ∃ r, r ≤ l.length ∧ (∀ q, q < r → (l.getD q zB).1 < t) ∧ (∀ q, r ≤ q → q < l.length → t ≤ (l.getD q zB).1) ∧ ledger_at k (l, t) = some ((r : Int), decide (r < l.length ∧ (l.getD r zB).1 = t)) := by
  obtain ⟨r, h1, h2, h3, h4⟩ := BSL_L0 l t (Int.ofNat l.length) hs hsort l.length 0 l.length k (by omega) (by omega) (by omega) (Nat.le_refl _) (fun q hq => by omega) (fun q hq hq' => by omega)
  refine ⟨r, h1, h2, h3, ?_⟩
  have h4' : BinarySearchFunc_B_L0 k (l, t, (), Int.ofNat l.length, 0, Int.ofNat l.length) = some (.inl (l, t, (), Int.ofNat l.length, (r : Int))) := h4
  have h5 : BinarySearchFunc_B k (l, t, ()) = some ((r : Int), decide (r < l.length ∧ (l.getD r zB).1 = t)) := by
    unfold BinarySearchFunc_B
    simp only [h4', Option.bind_some]
    have hcmp := at1_spec k (l.getD r zB) t
    rw [i_lt]
    by_cases hr : r < l.length
    · rw [dcT hr, dcT (Int.natCast_nonneg r), Int.toNat_natCast]
      simp only [cond_true, hcmp, Option.bind_some, hr, true_and]
      by_cases hc : (l.getD r zB).1 = t
      · rw [dcT ((cmpI_0 _ _).2 hc), dcT hc]; rfl
      · rw [dcF (fun h => hc ((cmpI_0 _ _).1 h)), dcF hc]; rfl
    · rw [dcF hr, dcF (show ¬ (r < l.length ∧ (l.getD r zB).1 = t) from fun h => hr h.1)]
      rfl
  unfold ledger_at
  simp only [h5, Option.bind_some]
  cases decide (r < l.length ∧ (l.getD r zB).1 = t) <;> rfl
theorem cut_at {l : List GBooked} {t : Int} {r : Nat} (hr : r ≤ l.length) (h1 : ∀ q, q < r → (l.getD q zB).1 < t) (h2 : ∀ q, r ≤ q → q < l.length → t ≤ (l.getD q zB).1) : (∀ b ∈ l.take r, b.1 < t) ∧ (∀ b ∈ l.drop r, t ≤ b.1) := by
  constructor
  · intro b hb
    obtain ⟨q, hq, rfl⟩ := List.mem_iff_getElem.1 hb
    have hq' : q < r := by rw [List.length_take] at hq; omega
    have := h1 q hq'
    rw [getB (by omega)] at this
    rw [List.getElem_take]; exact this
  · intro b hb
    obtain ⟨q, hq, rfl⟩ := List.mem_iff_getElem.1 hb
    rw [List.length_drop] at hq
    have := h2 (r + q) (by omega) (by omega)
    rw [getB (by omega)] at this
    rw [List.getElem_drop]; exact this
theorem used_at {l : List GBooked} (hsort : SortL l) {t : Int} {r : Nat} (hr : r ≤ l.length) (h1 : ∀ q, q < r → (l.getD q zB).1 < t) (h2 : ∀ q, r ≤ q → q < l.length → t ≤ (l.getD q zB).1) : usedL l t = if r < l.length ∧ (l.getD r zB).1 = t then (l.getD r zB).2 else z3 := by
  split
  · rename_i h
    have hm : l.getD r zB ∈ l := by rw [getB h.1]; exact List.getElem_mem h.1
    have := usedL_mem hsort hm
    rw [h.2] at this
    exact this
  · rename_i h
    refine usedL_none fun b hb e => ?_
    obtain ⟨q, hq, rfl⟩ := List.mem_iff_getElem.1 hb
    rcases Nat.lt_trichotomy q r with h5 | h5 | h5
    · have := h1 q h5
      rw [getB hq] at this
      omega
    · subst h5
      exact h ⟨hq, by rw [getB hq]; exact e⟩
    · have h6 := hsort.at r q h5 hq
      have h7 := h2 r (Nat.le_refl _) (by omega)
      rw [getB hq] at h6
      omega
theorem Used_spec (l : List GBooked) (t : Int) (k : Nat) (hs : l.length ≤ 1000000000) (hsort : SortL l) (hk : l.length < k) : ledger_Used k (l, t) = some (usedL l t) := by
  obtain ⟨r, h1, h2, h3, h4⟩ := at_spec l t k hs hsort hk
  rw [used_at hsort h1 h2 h3]
  unfold ledger_Used
  simp only [h4, Option.bind_some]
  by_cases h : r < l.length ∧ (l.getD r zB).1 = t
  · rw [dcT h, if_pos h, dcT (Int.natCast_nonneg r), i_lt, dcT h.1, Int.toNat_natCast]
    rfl
  · rw [dcF h, if_neg h]
    rfl
def sumL (ll : List (List GBooked)) : Nat := (ll.map (·.length)).sum
theorem sumL_drop {ll : List (List GBooked)} {i : Nat} (h : i < ll.length) : sumL (ll.drop i) = (ll.getD i []).length + sumL (ll.drop (i + 1)) := by
  unfold sumL
  rw [getD_drop (d := []) h]
  simp
theorem Concat_L0 (ll : List (List GBooked)) (hl : ll.length ≤ 1000) (hs : sumL ll ≤ 1000000000) : ∀ (n i k s : Nat), ll.length - i = n → n < k → s + sumL (ll.drop i) = sumL ll → slices_ConcatB_L0 k (ll, (s : Int), ll, Int.ofNat ll.length, (i : Int)) = some (.inl (ll, (sumL ll : Int)))
  | 0, i, k + 1, s, hn, hk, he => by
    simp only [slices_ConcatB_L0]
    rw [dcF (by show ¬ (i : Int) < (ll.length : Int); omega)]
    have : sumL (ll.drop i) = 0 := by rw [List.drop_eq_nil_of_le (by omega)]; rfl
    rw [show s = sumL ll by omega]
    rfl
  | n + 1, i, k + 1, s, hn, hk, he => by
    have hi : i < ll.length := by omega
    have h1 := sumL_drop hi
    simp only [slices_ConcatB_L0]
    rw [i_lt, dcT hi, dcT (Int.natCast_nonneg i), Int.toNat_natCast]
    have hw : w64 ((s : Int) + Int.ofNat (ll.getD i []).length) = ((s + (ll.getD i []).length : Nat) : Int) := by
      show w64 ((s : Int) + ((ll.getD i []).length : Int)) = _
      rw [w64_id (by omega) (by omega)]; omega
    rw [hw, dcF (by omega), w64_succ (by omega)]
    exact Concat_L0 ll hl hs n (i + 1) k _ (by omega) (by omega) (by omega)
theorem Concat_L1 (ll : List (List GBooked)) (hl : ll.length ≤ 1000) (hs : sumL ll ≤ 1000000000) : ∀ (n i k : Nat) (o : List GBooked), ll.length - i = n → n < k → o.length + sumL (ll.drop i) ≤ sumL ll → slices_ConcatB_L1 k (o, ll, Int.ofNat ll.length, (i : Int)) = some (.inl (o ++ (ll.drop i).flatten))
  | 0, i, k + 1, o, hn, hk, he => by
    simp only [slices_ConcatB_L1]
    rw [dcF (by show ¬ (i : Int) < (ll.length : Int); omega), List.drop_eq_nil_of_le (by omega)]
    simp
  | n + 1, i, k + 1, o, hn, hk, he => by
    have hi : i < ll.length := by omega
    have h1 := sumL_drop hi
    simp only [slices_ConcatB_L1]
    rw [i_lt, dcT hi, dcT (Int.natCast_nonneg i), Int.toNat_natCast, dcT (by omega), w64_succ (by omega)]
    have := Concat_L1 ll hl hs n (i + 1) k (o ++ ll.getD i []) (by omega) (by omega) (by rw [List.length_append]; omega)
    rw [getD_drop (d := []) hi, List.flatten_cons, ← List.append_assoc]
    exact this
theorem Concat_spec (ll : List (List GBooked)) (hl : ll.length ≤ 1000) (hs : sumL ll ≤ 1000000000) (k : Nat) (hk : ll.length < k) : slices_ConcatB k ll = some ll.flatten := by
  have h0 := Concat_L0 ll hl hs ll.length 0 k 0 (by omega) hk (by simp)
  have h1 := Concat_L1 ll hl hs ll.length 0 k [] (by omega) hk (by simp)
  have h0' : slices_ConcatB_L0 k (ll, 0, ll, Int.ofNat ll.length, 0) = some (.inl (ll, (sumL ll : Int))) := h0
  have h1' : slices_ConcatB_L1 k ([], ll, Int.ofNat ll.length, 0) = some (.inl ([] ++ (ll.drop 0).flatten)) := h1
  unfold slices_ConcatB
  simp only [h0', Option.bind_some]
  rw [dcT (Int.natCast_nonneg _), dcT (by omega)]
  simp only [Bool.and_self, cond_true, h1', Option.bind_some, List.drop_zero, List.nil_append]
theorem filter_cut {l : List GBooked} {t : Int} {r : Nat} (ha : ∀ b ∈ l.take r, b.1 < t) (hb : ∀ b ∈ l.drop r, t ≤ b.1) : l.filter (fun b => decide (b.1 < t)) = l.take r ∧ l.filter (fun b => decide (t < b.1)) = (l.drop r).filter (fun b => decide (t < b.1)) := by
  have e1 : (l.take r).filter (fun b => decide (b.1 < t)) = l.take r := List.filter_eq_self.2 fun b h => dcT (ha b h)
  have e2 : (l.drop r).filter (fun b => decide (b.1 < t)) = [] := List.filter_eq_nil_iff.2 fun b h => by have := hb b h; simp; omega
  have e3 : (l.take r).filter (fun b => decide (t < b.1)) = [] := List.filter_eq_nil_iff.2 fun b h => by have := ha b h; simp; omega
  constructor
  · conv => lhs; rw [← List.take_append_drop r l]
    rw [List.filter_append, e1, e2, List.append_nil]
  · conv => lhs; rw [← List.take_append_drop r l]
    rw [List.filter_append, e3, List.nil_append]
theorem nz_spec (u : T48) : (u.1 == 0 && (u.2.1 == 0 && u.2.2 == 0)) = decide (u = z3) := by
  obtain ⟨a, b, c⟩ := u
  rw [Bool.eq_iff_iff]
  simp [z3]
theorem with_spec (l : List GBooked) (t : Int) (u : T48) (k : Nat) (hs : l.length ≤ 400000000) (hsort : SortL l) (hk : l.length + 4 < k) : ledger_with k (l, t, u) = some (withL l t u) := by
  obtain ⟨r, h1, h2, h3, h4⟩ := at_spec l t k (by omega) hsort (by omega)
  obtain ⟨ha, hb⟩ := cut_at h1 h2 h3
  obtain ⟨f1, f2⟩ := filter_cut ha hb
  have e0 : decide ((r : Int) ≤ Int.ofNat l.length) = true := dcT (by show (r : Int) ≤ (l.length : Int); omega)
  have hlt : (l.take r).length ≤ l.length := by rw [List.length_take]; omega
  have hld : (l.drop r).length ≤ l.length := by rw [List.length_drop]; omega
  unfold ledger_with
  simp only [h4, Option.bind_some, nz_spec, dcT (Int.natCast_nonneg r), e0, cond_true, Int.toNat_natCast, Int.toNat_one]
  have fin : ∀ d : List GBooked, d.length ≤ l.length → (bif decide (u = z3) then (slices_ConcatB k [l.take r, d]).bind fun o => some o else (slices_ConcatB k [l.take r, [(t, u)], d]).bind fun o => some o) = some (l.take r ++ (oneL t u ++ d)) := fun d hd => by
    unfold oneL
    cases decide (u = z3) with
    | true =>
      simp only [cond_true]
      rw [Concat_spec _ (by simp) (by simp [sumL]; omega) k (by simp; omega)]
      simp
    | false =>
      simp only [cond_false]
      rw [Concat_spec _ (by simp) (by simp [sumL]; omega) k (by simp; omega)]
      simp
  unfold withL
  rw [f1, f2]
  by_cases h : r < l.length ∧ (l.getD r zB).1 = t
  · rw [dcT h]
    have e1 : decide ((1 : Int) ≤ Int.ofNat (l.drop r).length) = true := dcT (by show (1 : Int) ≤ ((l.drop r).length : Int); rw [List.length_drop]; omega)
    have e2 : (l.drop r).filter (fun b => decide (t < b.1)) = (l.drop r).drop 1 := by
      rw [getD_drop (d := zB) h.1, List.filter_cons]
      rw [if_neg (by simp only [decide_eq_true_eq]; have := h.2; omega), List.drop_one, List.tail_cons]
      refine List.filter_eq_self.2 fun b hb => dcT ?_
      obtain ⟨q, hq, rfl⟩ := List.mem_iff_getElem.1 hb
      rw [List.length_drop] at hq
      have := hsort.at r (r + 1 + q) (by omega) (by omega)
      rw [h.2, getB (by omega)] at this
      rw [List.getElem_drop]; exact this
    simp only [cond_true, e1]
    rw [e2]
    exact fin _ (by rw [List.length_drop]; omega)
  · rw [dcF h]
    have e2 : (l.drop r).filter (fun b => decide (t < b.1)) = l.drop r := by
      refine List.filter_eq_self.2 fun b hb => dcT ?_
      obtain ⟨q, hq, rfl⟩ := List.mem_iff_getElem.1 hb
      rw [List.length_drop] at hq
      rw [List.getElem_drop]
      have h5 := h3 (r + q) (by omega) (by omega)
      rw [getB (by omega)] at h5
      have h6 : l[r + q].1 ≠ t := fun e => by
        rcases Nat.eq_zero_or_pos q with h7 | h7
        · subst h7
          exact h ⟨by omega, by rw [getB (by omega)]; exact e⟩
        · have h8 := hsort.at r (r + q) (by omega) (by omega)
          have h9 := h3 r (Nat.le_refl _) (by omega)
          rw [getB (i := r + q) (by omega)] at h8
          omega
      omega
    simp only [cond_false]
    rw [e2]
    exact fin _ hld
def satB (a b : Int) : Int := min a (4611686018427387904 - b) + b
def backL (u : T48) (c : Int) : Int := if c = 0 then satB (satB (satB 0 u.1) u.2.1) u.2.2 else if c = 1 then satB (satB 0 u.2.1) u.2.2 else satB 0 u.2.2
def clsB (c : Int) : Bool := decide (0 ≤ c ∧ c < 3)
theorem class_spec (k : Nat) (c : Int) : ledger_class k c = some (clsB c) := by
  unfold ledger_class clsB
  by_cases h : 0 ≤ c <;> by_cases h2 : c < 3 <;> simp [h, h2]
theorem cls_cases {c : Int} (h : clsB c = true) : c = 0 ∨ c = 1 ∨ c = 2 := by
  have := of_decide_eq_true h
  omega
theorem sat_step {a b : Int} (ha : In62 a) (hb : In62 b) : w64 (mn a (w64 (4611686018427387904 - b)) + b) = satB a b ∧ In62 (satB a b) := by
  unfold In62 at *
  rw [show w64 (4611686018427387904 - b) = 4611686018427387904 - b from w64_id (by omega) (by omega)]
  have : mn a (4611686018427387904 - b) = min a (4611686018427387904 - b) := by unfold mn; omega
  rw [this, w64_id (by omega) (by omega)]
  unfold satB
  exact ⟨rfl, by omega⟩
theorem In62.zero : In62 0 := by unfold In62; omega
theorem Backlog_L0 (k : Nat) (hk : 4 ≤ k) {s : Int} (hs : In62 s) (l : List Int) (hl : l.length ≤ 3) (h : ∀ x ∈ l, In62 x) : ledger_Backlog_L0 k (s, l, Int.ofNat l.length, 0) = some (.inl (l.foldl satB s)) := by
  have key : ∀ (n i k : Nat) (s : Int), In62 s → l.length - i = n → n < k → ledger_Backlog_L0 k (s, l, Int.ofNat l.length, (i : Int)) = some (.inl ((l.drop i).foldl satB s))
    := by
    intro n
    induction n with
    | zero =>
      intro i k s hs hn hk
      obtain ⟨k, rfl⟩ : ∃ m, k = m + 1 := ⟨k - 1, by omega⟩
      simp only [ledger_Backlog_L0]
      rw [dcF (by show ¬ (i : Int) < (l.length : Int); omega), List.drop_eq_nil_of_le (by omega)]
      rfl
    | succ n ih =>
      intro i k s hs hn hk
      obtain ⟨k, rfl⟩ : ∃ m, k = m + 1 := ⟨k - 1, by omega⟩
      have hi : i < l.length := by omega
      have hx : In62 (l.getD i 0) := h _ (by rw [List.getD_eq_getElem?_getD, List.getElem?_eq_getElem hi]; exact List.getElem_mem hi)
      obtain ⟨e1, e2⟩ := sat_step hs hx
      simp only [ledger_Backlog_L0]
      rw [i_lt, dcT hi, dcT (Int.natCast_nonneg i), Int.toNat_natCast, e1, w64_succ (by omega), getD_drop (d := 0) hi, List.foldl_cons]
      exact ih (i + 1) k _ e2 (by omega) (by omega)
  have := key l.length 0 k s hs (by omega) (by omega)
  rw [List.drop_zero] at this
  exact this
theorem Backlog_spec (l : List GBooked) (id c : Int) (k : Nat) (hs : l.length ≤ 1000000000) (h : RightL l) (hk : l.length + 4 < k) : ledger_Backlog k (l, id, c) = some (bif clsB c then backL (usedL l id) c else 0) := by
  unfold ledger_Backlog
  simp only [class_spec, Option.bind_some, Used_spec l id k hs h.2 (by omega)]
  cases hc : clsB c with
  | false => rfl
  | true =>
    obtain ⟨u1, u2, u3⟩ := usedL_ok h id
    simp only [cond_true]
    have key : ∀ n : Nat, n ≤ 2 → c = (n : Int) → (ledger_Backlog_L0 k (0, List.drop n [(usedL l id).1, (usedL l id).2.1, (usedL l id).2.2], Int.ofNat (List.drop n [(usedL l id).1, (usedL l id).2.1, (usedL l id).2.2]).length, 0)) = some (.inl ((List.drop n [(usedL l id).1, (usedL l id).2.1, (usedL l id).2.2]).foldl satB 0)) := fun n hn e =>
      Backlog_L0 k (by omega) In62.zero _ (by simp) (fun x hx => by
        have := List.mem_of_mem_drop hx
        simp only [List.mem_cons, List.not_mem_nil, or_false] at this
        rcases this with rfl | rfl | rfl
        · exact u1
        · exact u2
        · exact u3)
    rcases cls_cases hc with rfl | rfl | rfl
    · have := key 0 (by omega) rfl
      simp only [Int.toNat_zero, this, Option.bind_some]
      simp [backL]
    · have := key 1 (by omega) rfl
      simp only [Int.toNat_one, this, Option.bind_some]
      simp [backL]
    · have := key 2 (by omega) rfl
      simp only [show Int.toNat 2 = 2 from rfl, this, Option.bind_some]
      simp [backL]
def volC (c : GContact) : Int := if conB c = true then (c.2.2.2.2.1 - c.2.2.2.1) * c.2.2.2.2.2 else 0
theorem vol_62 (c : GContact) : In62 (volC c) := by
  unfold volC In62
  split
  · rename_i h
    unfold conB spanB at h
    simp only [Bool.and_eq_true, decide_eq_true_eq] at h
    obtain ⟨⟨⟨_, h1⟩, _⟩, h2⟩ := h
    constructor
    · exact Int.mul_nonneg (by omega) (by omega)
    · have := Int.mul_le_mul (a := c.2.2.2.2.1 - c.2.2.2.1) (b := c.2.2.2.2.2) (c := 2147483647) (d := 2147483647) (by omega) (by omega) (by omega) (by omega)
      omega
  · omega
theorem Volume_spec (k : Nat) (c : GContact) (h : rngC c) : check_Volume k c = some (volC c) := by
  have hv := vol_62 c
  unfold check_Volume
  simp only [check_Contact_spec k c h.1 h.2, Option.bind_some]
  unfold volC In62 at *
  cases hc : conB c with
  | false => rfl
  | true =>
    rw [hc] at hv
    simp only [if_true, cond_true] at hv ⊢
    have h1 : w64 (c.2.2.2.2.1 - c.2.2.2.1) = c.2.2.2.2.1 - c.2.2.2.1 := by
      unfold conB spanB at hc
      simp only [Bool.and_eq_true, decide_eq_true_eq] at hc
      rw [w64_id (by omega) (by omega)]
    rw [h1, w64_id (by omega) (by omega)]
theorem back_62 {u : T48} (h : okU u) (c : Int) : In62 (backL u c) := by
  obtain ⟨u1, u2, u3⟩ := h
  unfold backL
  split
  · exact (sat_step (sat_step (sat_step In62.zero u1).2 u2).2 u3).2
  · split
    · exact (sat_step (sat_step In62.zero u2).2 u3).2
    · exact (sat_step In62.zero u3).2
def roomL (u : T48) (c : GContact) (n : Int) : Int := if clsB n = true then max (volC c - backL u n) 0 else 0
theorem Room_spec (l : List GBooked) (c : GContact) (n : Int) (k : Nat) (hs : l.length ≤ 1000000000) (h : RightL l) (hr : rngC c) (hk : l.length + 4 < k) : ledger_Room k (l, c, n) = some (roomL (usedL l c.1) c n) := by
  have hv := vol_62 c
  have hb := back_62 (usedL_ok h c.1) n
  unfold ledger_Room roomL
  simp only [class_spec, Option.bind_some, Volume_spec k c hr, Backlog_spec l c.1 n k hs h hk]
  cases hc : clsB n with
  | false => rfl
  | true =>
    unfold In62 at hv hb
    simp only [cond_true, if_true]
    rw [w64_id (by omega) (by omega)]
    unfold mx
    congr 1
    omega
def addU (u : T48) (c n : Int) : T48 := if c = 0 then (u.1 + n, u.2) else if c = 1 then (u.1, u.2.1 + n, u.2.2) else (u.1, u.2.1, u.2.2 + n)
def getU (u : T48) (c : Int) : Int := if c = 0 then u.1 else if c = 1 then u.2.1 else u.2.2
theorem CloneB_spec (l : List GBooked) (k : Nat) (h : l.length ≤ 1000000000) : slices_Clone_api_Booked_api_Booked k l = some l := by
  unfold slices_Clone_api_Booked_api_Booked
  rw [dcT (by omega)]
  rfl
def bookB (u : T48) (c : GContact) (n size : Int) : Bool := conB c && (clsB n && (decide (0 ≤ size) && decide (size ≤ roomL u c n)))
theorem add_62 {u : T48} (hu : okU u) {c : GContact} {n size : Int} (h : bookB u c n size = true) : In62 (getU u n + size) := by
  unfold bookB at h
  simp only [Bool.and_eq_true, decide_eq_true_eq] at h
  obtain ⟨_, h1, h2, h3⟩ := h
  have hv := vol_62 c
  unfold roomL at h3
  rw [if_pos h1] at h3
  obtain ⟨u1, u2, u3⟩ := hu
  unfold In62 at *
  rcases cls_cases h1 with rfl | rfl | rfl
  · unfold backL satB at h3; unfold getU; simp only [if_true] at h3 ⊢; omega
  · unfold backL satB at h3; unfold getU; simp only [show ¬ (1 : Int) = 0 by omega, if_false, if_true] at h3 ⊢; omega
  · unfold backL satB at h3; unfold getU; simp only [show ¬ (2 : Int) = 0 by omega, show ¬ (2 : Int) = 1 by omega, if_false] at h3 ⊢; omega
theorem Book_spec (l : List GBooked) (c : GContact) (n size : Int) (k : Nat) (hs : l.length ≤ 400000000) (h : RightL l) (hr : rngC c) (hk : l.length + 4 < k) : ledger_Book k (l, c, n, size) = some (bif bookB (usedL l c.1) c n size then (withL l c.1 (addU (usedL l c.1) n size), true) else (l, false)) := by
  have h62 := @add_62 _ (usedL_ok h c.1) c n size
  unfold ledger_Book
  simp only [class_spec, Option.bind_some, check_Contact_spec k c hr.1 hr.2, CloneB_spec l k (by omega), Room_spec l c n k (by omega) h hr hk, Used_spec l c.1 k (by omega) h.2 (by omega), with_spec l _ _ k hs h.2 (by omega)]
  unfold bookB at *
  cases hc : conB c with
  | false => rfl
  | true =>
    cases hn : clsB n with
    | false => rfl
    | true =>
      rw [hc, hn] at h62
      simp only [cond_true, Bool.true_and] at h62 ⊢
      by_cases h0 : size < 0
      · rw [dcT h0, dcF (by omega : ¬ 0 ≤ size)]; rfl
      · rw [dcF h0, dcT (by omega : 0 ≤ size)] at *
        by_cases h1 : roomL (usedL l c.1) c n < size
        · rw [dcT h1, dcF (by omega : ¬ size ≤ roomL (usedL l c.1) c n)]; rfl
        · rw [dcF h1, dcT (by omega : size ≤ roomL (usedL l c.1) c n)] at *
          have h62 := h62 rfl
          unfold In62 getU at h62
          unfold addU
          rcases cls_cases hn with rfl | rfl | rfl
          · simp only [if_true] at h62 ⊢
            rw [w64_id (by omega) (by omega)]; rfl
          · simp only [show ¬ (1 : Int) = 0 by omega, if_false, if_true] at h62 ⊢
            rw [show w64 ((usedL l c.1).2.1 + size) = (usedL l c.1).2.1 + size from w64_id (by omega) (by omega)]; rfl
          · simp only [show ¬ (2 : Int) = 0 by omega, show ¬ (2 : Int) = 1 by omega, if_false] at h62 ⊢
            rw [show w64 ((usedL l c.1).2.2 + size) = (usedL l c.1).2.2 + size from w64_id (by omega) (by omega)]; rfl
def freeB (u : T48) (n size : Int) : Bool := clsB n && (decide (0 ≤ size) && decide (size ≤ getU u n))
theorem Release_spec (l : List GBooked) (id n size : Int) (k : Nat) (hs : l.length ≤ 400000000) (h : RightL l) (hk : l.length + 4 < k) : ledger_Release k (l, id, n, size) = some (bif freeB (usedL l id) n size then (withL l id (addU (usedL l id) n (-size)), true) else (l, false)) := by
  obtain ⟨u1, u2, u3⟩ := usedL_ok h id
  unfold In62 at u1 u2 u3
  unfold ledger_Release
  simp only [class_spec, Option.bind_some, CloneB_spec l k (by omega), Used_spec l id k (by omega) h.2 (by omega), with_spec l _ _ k hs h.2 (by omega)]
  unfold freeB getU addU
  cases hn : clsB n with
  | false => rfl
  | true =>
    simp only [cond_true, Bool.true_and]
    by_cases h0 : size < 0
    · rw [dcT h0, dcF (by omega : ¬ 0 ≤ size)]; rfl
    · rw [dcF h0, dcT (by omega : 0 ≤ size)]
      rcases cls_cases hn with rfl | rfl | rfl
      · simp only [if_true]
        by_cases h1 : (usedL l id).1 < size
        · rw [dcT h1, dcF (by omega : ¬ size ≤ (usedL l id).1)]; rfl
        · rw [dcF h1, dcT (by omega : size ≤ (usedL l id).1)]
          rw [show w64 ((usedL l id).1 - size) = (usedL l id).1 + -size from by rw [w64_id (by omega) (by omega)]; omega]; rfl
      · simp only [show ¬ (1 : Int) = 0 by omega, if_false, if_true]
        by_cases h1 : (usedL l id).2.1 < size
        · rw [dcT h1, dcF (by omega : ¬ size ≤ (usedL l id).2.1)]; rfl
        · rw [dcF h1, dcT (by omega : size ≤ (usedL l id).2.1)]
          rw [show w64 ((usedL l id).2.1 - size) = (usedL l id).2.1 + -size from by rw [w64_id (by omega) (by omega)]; omega]; rfl
      · simp only [show ¬ (2 : Int) = 0 by omega, show ¬ (2 : Int) = 1 by omega, if_false]
        by_cases h1 : (usedL l id).2.2 < size
        · rw [dcT h1, dcF (by omega : ¬ size ≤ (usedL l id).2.2)]; rfl
        · rw [dcF h1, dcT (by omega : size ≤ (usedL l id).2.2)]
          rw [show w64 ((usedL l id).2.2 - size) = (usedL l id).2.2 + -size from by rw [w64_id (by omega) (by omega)]; omega]; rfl
end Ex
namespace Ex
open Go
theorem Index_L0 (s : List Int) (v : Int) (hs : s.length ≤ 1000000000) : ∀ (n i k : Nat), s.length - i = n → n < k → slices_Index_int_int_L0 k (s, v, Int.ofNat s.length, (i : Int)) = some (firstA (fun x => decide (v = x)) s i)
  | 0, i, k + 1, hn, hk => by
    rw [firstA_end (by omega)]
    simp only [slices_Index_int_int_L0]
    rw [i_lt, dcF (by omega)]
    rfl
  | n + 1, i, k + 1, hn, hk => by
    have hi : i < s.length := by omega
    rw [firstA_step 0 hi]
    simp only [slices_Index_int_int_L0]
    rw [i_lt, dcT hi, dcT (Int.natCast_nonneg i)]
    simp only [cond_true, Int.toNat_natCast, w64_succ (by omega : i < 4611686018427387904), Index_L0 s v hs n (i + 1) k (by omega) (by omega)]
    cases decide (v = s.getD i 0) <;> rfl
theorem Contains_spec (s : List Int) (v : Int) (k : Nat) (hs : s.length ≤ 1000000000) (hk : s.length < k) : slices_Contains_int_int k (s, v) = some (decide (v ∈ s)) := by
  have h1 : slices_Index_int_int k (s, v) = some (findA (fun x => decide (v = x)) s) := by
    unfold slices_Index_int_int
    have := Index_L0 s v hs s.length 0 k (by omega) hk
    rw [Int.natCast_zero] at this
    simp only [this, Option.bind_some]
    exact findA_first _ _
  unfold slices_Contains_int_int
  simp only [h1, Option.bind_some, findA_any]
  have e : (s.any fun x => decide (v = x)) = decide (v ∈ s) := by
    rw [Bool.eq_iff_iff, List.any_eq_true]
    simp
  rw [e]
  cases decide (v ∈ s) <;> rfl
theorem Drop1_spec (b : GBooked) (ids : List Int) (k : Nat) (hs : ids.length ≤ 1000000000) (hk : ids.length < k) : ledger_Drop_1 k (b, ids) = some (decide (b.1 ∈ ids)) := by
  unfold ledger_Drop_1
  simp only [Contains_spec ids b.1 k hs hk, Option.bind_some]
  cases decide (b.1 ∈ ids) <;> rfl
theorem drI_L0 (s : List GBooked) (f : List Int) (hs : s.length ≤ 1000000000) (hf : f.length ≤ 1000000000) : ∀ (n i k : Nat), s.length - i = n → n + f.length < k → IndexFuncB_dr_L0 k (s, f, Int.ofNat s.length, (i : Int)) = some (firstA (fun b => decide (b.1 ∈ f)) s i)
  | 0, i, k + 1, hn, hk => by
    rw [firstA_end (by omega)]
    simp only [IndexFuncB_dr_L0]
    rw [i_lt, dcF (by omega)]
    rfl
  | n + 1, i, k + 1, hn, hk => by
    have hi : i < s.length := by omega
    rw [firstA_step zB hi]
    simp only [IndexFuncB_dr_L0]
    rw [i_lt, dcT hi, dcT (Int.natCast_nonneg i)]
    simp only [cond_true, Drop1_spec _ f k hf (by omega), Option.bind_some, Int.toNat_natCast, w64_succ (by omega : i < 4611686018427387904), drI_L0 s f hs hf n (i + 1) k (by omega) (by omega)]
    cases decide ((s.getD i zB).1 ∈ f) <;> rfl
def keepB (f : List Int) (b : GBooked) : Bool := !decide (b.1 ∈ f)
theorem drD_L0 (s : List GBooked) (f : List Int) (hs : s.length ≤ 1000000000) (hf : f.length ≤ 1000000000) : ∀ (n i j k : Nat) (t : List GBooked), t.length = s.length → s.length - j = n → n + f.length < k → i ≤ j → j ≤ s.length → t.take i = (s.take j).filter (keepB f) → t.drop j = s.drop j →
    ∃ (t' : List GBooked) (i' : Nat), DeleteFuncB_dr_L0 k (t, f, (i : Int), (j : Int)) = some (.inl (t', (i' : Int))) ∧ t'.length = s.length ∧ i' ≤ s.length ∧ t'.take i' = s.filter (keepB f)
  | 0, i, j, k + 1, t, hl, hn, hk, hij, hj, h1, h2 => by
    refine ⟨t, i, ?_, hl, by omega, ?_⟩
    · simp only [DeleteFuncB_dr_L0]
      rw [i_lt, dcF (by omega)]
      rfl
    · rw [h1, List.take_of_length_le (by omega)]
  | n + 1, i, j, k + 1, t, hl, hn, hk, hij, hj, h1, h2 => by
    have hjt : j < t.length := by omega
    have hjs : j < s.length := by omega
    have hx : t.getD j zB = s.getD j zB := by
      have h3 := h2
      rw [getD_drop (d := zB) hjt, getD_drop (d := zB) hjs, List.cons.injEq] at h3
      exact h3.1
    have hd : t.drop (j + 1) = s.drop (j + 1) := by
      have h3 := h2
      rw [getD_drop (d := zB) hjt, getD_drop (d := zB) hjs, List.cons.injEq] at h3
      exact h3.2
    have hg := filter_take_succ (p := keepB f) zB hjs
    simp only [DeleteFuncB_dr_L0]
    rw [i_lt, dcT hjt, dcT (Int.natCast_nonneg j)]
    simp only [cond_true, Drop1_spec _ f k hf (by omega), Option.bind_some, Int.toNat_natCast, hx, w64_succ (by omega : j < 4611686018427387904), w64_succ (by omega : i < 4611686018427387904)]
    rw [i_lt, dcT (by omega : i < t.length), dcT (Int.natCast_nonneg i)]
    generalize hxx : s.getD j zB = x at *
    by_cases h : x.1 ∈ f
    · rw [dcT h]
      refine drD_L0 s f hs hf n i (j + 1) k t hl (by omega) (by omega) (by omega) (by omega) ?_ hd
      rw [hg, h1]
      simp [keepB, h]
    · rw [dcF h]
      simp only [cond_true, cond_false, Option.bind_some]
      refine drD_L0 s f hs hf n (i + 1) (j + 1) k (t.set i x) (by simp [hl]) (by omega) (by omega) (by omega) (by omega) ?_ ?_
      · rw [take_set_self (by omega), hg, h1]
        simp [keepB, h]
      · rw [List.drop_set_of_lt (by omega)]
        exact hd
theorem Drop_spec (s : List GBooked) (f : List Int) (k : Nat) (hs : s.length ≤ 1000000000) (hf : f.length ≤ 1000000000) (hk : s.length + f.length < k) : ledger_Drop k (s, f) = some (dropL s f) := by
  have h0 : IndexFuncB_dr k (s, f) = some (findA (fun b => decide (b.1 ∈ f)) s) := by
    unfold IndexFuncB_dr
    have := drI_L0 s f hs hf s.length 0 k (by omega) hk
    rw [Int.natCast_zero] at this
    simp only [this, Option.bind_some]
    exact findA_first _ _
  have h5 : DeleteFuncB_dr k s f = some (s.filter (keepB f)) := by
    unfold DeleteFuncB_dr
    simp only [h0, Option.bind_some]
    rcases findA_cases (fun b : GBooked => decide (b.1 ∈ f)) s with ⟨h1, h2⟩ | ⟨j, h1, hj, hp, hlt⟩
    · rw [h1]
      have : s.filter (keepB f) = s := List.filter_eq_self.2 (fun x hx => by have := h2 x hx; unfold keepB; rw [this]; rfl)
      rw [this]
      rfl
    · rw [h1, dcF (by omega)]
      simp only [cond_false, w64_succ (by omega : j < 4611686018427387904)]
      have hpre : (s.take j).filter (keepB f) = s.take j := List.filter_eq_self.2 (fun x hx => by
        obtain ⟨q, hq, rfl⟩ := List.mem_iff_getElem.1 hx
        have hq' : q < j := by rw [List.length_take] at hq; omega
        have := hlt q hq'
        simp only [List.getElem_take, keepB]
        rw [this]; rfl)
      obtain ⟨t', i', e1, e2, e3, e4⟩ := drD_L0 s f hs hf (s.length - (j + 1)) j (j + 1) k s rfl rfl (by omega) (by omega) (by omega) (by
        rw [filter_take_succ (p := keepB f) zB hj, hpre, List.getD_eq_getElem?_getD, List.getElem?_eq_getElem hj]
        have hkp : keepB f s[j] = false := by unfold keepB; rw [hp]; rfl
        simp [hkp]) rfl
      rw [e1]
      have hcl : (clearL t' i' zB).length = t'.length := by
        unfold clearL
        rw [List.length_append, List.length_take, List.length_replicate]; omega
      have htk : (clearL t' i' zB).take i' = t'.take i' := by
        unfold clearL
        rw [List.take_append_of_le_length (by rw [List.length_take]; omega), List.take_take, Nat.min_self]
      have hle : decide ((i' : Int) ≤ Int.ofNat t'.length) = true := dcT (by rw [e2]; exact Int.ofNat_le.2 e3)
      simp only [Option.bind_some, Int.toNat_natCast, dcT (Int.natCast_nonneg i'), hle, hcl, cond_true, htk, e4]
  unfold ledger_Drop
  simp only [CloneB_spec s k hs, Option.bind_some, h5]
  rfl
theorem eq4 (x y : GBooked) : (x.1 == y.1 && (x.2.1 == y.2.1 && (x.2.2.1 == y.2.2.1 && x.2.2.2 == y.2.2.2))) = decide (x = y) := by
  obtain ⟨a, b, c, d⟩ := x
  obtain ⟨a', b', c', d'⟩ := y
  rw [Bool.eq_iff_iff]
  simp [and_assoc]
theorem EqualB_L0 (a b : List GBooked) (hs : a.length ≤ 1000000000) (hl : a.length = b.length) : ∀ (n i k : Nat), a.length - i = n → n < k → slices_Equal_api_Booked_api_Booked_L0 k (a, b, Int.ofNat a.length, (i : Int)) = some (sameI a b i)
  | 0, i, k + 1, hn, hk => by
    rw [sameI_end (by omega) hl]
    simp only [slices_Equal_api_Booked_api_Booked_L0]
    rw [i_lt, dcF (by omega)]
    rfl
  | n + 1, i, k + 1, hn, hk => by
    have hi : i < a.length := by omega
    rw [sameI_step zB hi hl]
    simp only [slices_Equal_api_Booked_api_Booked_L0]
    rw [i_lt, dcT hi, i_lt, dcT (by omega : i < b.length), dcT (Int.natCast_nonneg i)]
    simp only [cond_true, Int.toNat_natCast, eq4, w64_succ (by omega : i < 4611686018427387904), EqualB_L0 a b hs hl n (i + 1) k (by omega) (by omega)]
    by_cases h : a.getD i zB = b.getD i zB
    · rw [dcT h, if_pos h]; rfl
    · rw [dcF h, if_neg h]; rfl
theorem SameB_spec (a b : List GBooked) (k : Nat) (hs : a.length ≤ 1000000000) (hk : a.length < k) : ledger_Same k (a, b) = some (decide (a = b)) := by
  have h1 : slices_Equal_api_Booked_api_Booked k (a, b) = some (decide (a = b)) := by
    unfold slices_Equal_api_Booked_api_Booked
    by_cases hl : a.length = b.length
    · have e : decide (Int.ofNat a.length = Int.ofNat b.length) = true := dcT (by rw [hl])
      have := EqualB_L0 a b hs hl a.length 0 k (by omega) hk
      rw [Int.natCast_zero] at this
      simp only [e, Bool.not_true, cond_false, this, Option.bind_some]
      unfold sameI
      rw [List.drop_zero, List.drop_zero]
      by_cases h : a = b
      · rw [if_pos h, dcT h]
      · rw [if_neg h, dcF h]
    · have e : decide (Int.ofNat a.length = Int.ofNat b.length) = false := dcF (fun h => hl (Int.ofNat.inj h))
      rw [dcF (fun h => hl (by rw [h]) : ¬ a = b)]
      simp only [e]
      rfl
  unfold ledger_Same
  simp only [h1, Option.bind_some]
  exact bif_self _
instance (n : Int) : Decidable (In62 n) := by unfold In62; infer_instance
def u62 (u : T48) : Bool := decide (In62 u.1) && (decide (In62 u.2.1) && decide (In62 u.2.2))
theorem u62_iff (u : T48) : u62 u = true ↔ okU u := by
  unfold u62 okU
  simp
theorem in62_bif {α : Type} (n : Int) (x y : α) : (bif decide (n < 0) then x else bif decide (4611686018427387904 < n) then x else y) = bif decide (In62 n) then y else x := by
  unfold In62
  by_cases h : n < 0
  · rw [dcT h, dcF (by omega : ¬ (0 ≤ n ∧ n ≤ 4611686018427387904))]; rfl
  · rw [dcF h]
    by_cases h2 : 4611686018427387904 < n
    · rw [dcT h2, dcF (by omega : ¬ (0 ≤ n ∧ n ≤ 4611686018427387904))]; rfl
    · rw [dcF h2, dcT (by omega : (0 ≤ n ∧ n ≤ 4611686018427387904))]; rfl
def okBb (l : List GBooked) (i : Nat) : Bool := decide (1 ≤ (l.getD i zB).1 ∧ (l.getD i zB).1 ≤ 1048576) && ((bif decide (0 < i) then decide ((l.getD (i - 1) zB).1 < (l.getD i zB).1) else true) && (!decide ((l.getD i zB).2 = z3) && u62 (l.getD i zB).2))
def chkG (p : Nat → Bool) : Nat → Nat → Bool
  | 0, _ => true
  | n + 1, i => p i && chkG p n (i + 1)
theorem chkG_all (p : Nat → Bool) : ∀ n i, chkG p n i = true ↔ ∀ q, i ≤ q → q < i + n → p q = true
  | 0, i => by simp only [chkG]; exact ⟨fun _ q h1 h2 => by omega, fun _ => trivial⟩
  | n + 1, i => by
    simp only [chkG, Bool.and_eq_true, chkG_all p n (i + 1)]
    constructor
    · rintro ⟨h1, h2⟩ q hq1 hq2
      rcases Nat.eq_or_lt_of_le hq1 with rfl | h
      · exact h1
      · exact h2 q (by omega) (by omega)
    · intro h
      exact ⟨h i (Nat.le_refl _) (by omega), fun q h1 h2 => h q (by omega) (by omega)⟩
theorem RL_L1 (l t7 : List GBooked) (t8 t9 : Int) (u : T48) (k : Nat) (hk : 4 ≤ k) : ledger_Right_L1 k (l, t7, t8, t9, u, 0) = some (bif u62 u then .inl (l, t7, t8, t9) else .inr false) := by
  obtain ⟨k, rfl⟩ : ∃ m, k = m + 4 := ⟨k - 4, by omega⟩
  have s3 : ledger_Right_L1 (k + 1) (l, t7, t8, t9, u, 3) = some (.inl (l, t7, t8, t9)) := rfl
  have s2 : ledger_Right_L1 (k + 2) (l, t7, t8, t9, u, 2) = bif decide (In62 u.2.2) then some (.inl (l, t7, t8, t9)) else some (.inr false) := by
    rw [← in62_bif, ← s3]; rfl
  have s1 : ledger_Right_L1 (k + 3) (l, t7, t8, t9, u, 1) = bif decide (In62 u.2.1) then (bif decide (In62 u.2.2) then some (.inl (l, t7, t8, t9)) else some (.inr false)) else some (.inr false) := by
    rw [← in62_bif u.2.1, ← s2]; rfl
  have s0 : ledger_Right_L1 (k + 4) (l, t7, t8, t9, u, 0) = bif decide (In62 u.1) then (bif decide (In62 u.2.1) then (bif decide (In62 u.2.2) then some (.inl (l, t7, t8, t9)) else some (.inr false)) else some (.inr false)) else some (.inr false) := by
    rw [← in62_bif u.1, ← s1]; rfl
  rw [s0]
  unfold u62
  cases decide (In62 u.1) <;> cases decide (In62 u.2.1) <;> cases decide (In62 u.2.2) <;> rfl
theorem RL_L0 (l : List GBooked) (hs : l.length ≤ 1000000000) : ∀ (n i k : Nat), l.length - i = n → n + 5 < k → i ≤ l.length → ledger_Right_L0 k (l, l, Int.ofNat l.length, (i : Int)) = some (bif chkG (okBb l) n i then .inl () else .inr false)
  | 0, i, k + 1, hn, hk, hi => by
    simp only [ledger_Right_L0]
    rw [i_lt, dcF (by omega)]
    rfl
  | n + 1, i, k + 1, hn, hk, _ => by
    have hi : i < l.length := by omega
    have ih := RL_L0 l hs n (i + 1) k (by omega) (by omega) (by omega)
    simp only [ledger_Right_L0]
    rw [i_lt, dcT hi, dcT (Int.natCast_nonneg i), Int.toNat_natCast]
    simp only [cond_true, chkG, okBb, nz_spec, RL_L1 l l _ _ _ k (by omega), Option.bind_some]
    generalize hb : l.getD i zB = b
    by_cases g1 : b.1 < 1
    · rw [dcT g1, dcF (by omega : ¬ (1 ≤ b.1 ∧ b.1 ≤ 1048576))]; rfl
    rw [dcF g1]
    by_cases g2 : 1048576 < b.1
    · rw [dcT g2, dcF (by omega : ¬ (1 ≤ b.1 ∧ b.1 ≤ 1048576))]; rfl
    rw [dcF g2, dcT (by omega : (1 ≤ b.1 ∧ b.1 ≤ 1048576))]
    have fin : (bif decide (b.2 = z3) then some (.inr false) else (match (bif u62 b.2 then (.inl (l, l, Int.ofNat l.length, (i : Int)) : ((List GBooked) × (List GBooked) × Int × Int) ⊕ Bool) else .inr false) with | .inl o => ledger_Right_L0 k (o.1, o.2.1, o.2.2.1, w64 (o.2.2.2 + 1)) | .inr o => some (Sum.inr o))) = some (bif (!decide (b.2 = z3) && u62 b.2) && chkG (okBb l) n (i + 1) then .inl () else .inr false) := by
      cases decide (b.2 = z3) with
      | true => rfl
      | false =>
        cases u62 b.2 with
        | false => rfl
        | true =>
          simp only [cond_true, cond_false, w64_succ (by omega : i < 4611686018427387904), ih]
          rfl
    by_cases h0 : 0 < i
    · have e0 : w64 ((i : Int) - 1) = ((i - 1 : Nat) : Int) := by rw [w64_id (by omega) (by omega)]; omega
      rw [dcT (by omega : (0 : Int) < (i : Int)), dcT h0, e0]
      rw [i_lt, dcT (by omega : i - 1 < l.length), dcT (Int.natCast_nonneg (i - 1)), Int.toNat_natCast]
      simp only [cond_true, cond_false, Bool.true_and]
      by_cases h1 : b.1 ≤ (l.getD (i - 1) zB).1
      · rw [dcT h1, dcF (by omega : ¬ (l.getD (i - 1) zB).1 < b.1)]; rfl
      · rw [dcF h1, dcT (by omega : (l.getD (i - 1) zB).1 < b.1)]
        exact fin
    · rw [dcF (by omega : ¬ (0 : Int) < (i : Int)), dcF h0]
      exact fin
theorem chkB_iff (l : List GBooked) : chkG (okBb l) l.length 0 = true ↔ RightL l := by
  rw [chkG_all]
  constructor
  · intro h
    have key : ∀ q, q < l.length → (1 ≤ (l.getD q zB).1 ∧ (l.getD q zB).1 ≤ 1048576) ∧ (0 < q → (l.getD (q - 1) zB).1 < (l.getD q zB).1) ∧ (l.getD q zB).2 ≠ z3 ∧ okU (l.getD q zB).2 := fun q hq => by
      have := h q (Nat.zero_le _) (by omega)
      unfold okBb at this
      simp only [Bool.and_eq_true, decide_eq_true_eq, Bool.not_eq_true', decide_eq_false_iff_not, u62_iff] at this
      refine ⟨this.1, fun h0 => ?_, this.2.2.1, this.2.2.2⟩
      have h2 := this.2.1
      rw [dcT h0] at h2
      exact of_decide_eq_true h2
    refine ⟨fun b hb => ?_, List.pairwise_iff_getElem.2 ?_⟩
    · obtain ⟨q, hq, rfl⟩ := List.mem_iff_getElem.1 hb
      have := key q hq
      rw [getB hq] at this
      exact ⟨this.1, this.2.2⟩
    · have up : ∀ (d i : Nat), i + d + 1 < l.length → (l.getD i zB).1 < (l.getD (i + d + 1) zB).1 := by
        intro d
        induction d with
        | zero => intro i hi; exact (key (i + 0 + 1) hi).2.1 (by omega)
        | succ d ih =>
          intro i hi
          have h1 := ih i (by omega)
          have h2 := (key (i + (d + 1) + 1) hi).2.1 (by omega)
          rw [show i + (d + 1) + 1 - 1 = i + d + 1 by omega] at h2
          omega
      intro i j hi hj hij
      have := up (j - i - 1) i (by omega)
      rw [show i + (j - i - 1) + 1 = j by omega, getB hi, getB hj] at this
      exact this
  · intro h q _ hq
    have hq : q < l.length := by omega
    have hm : l.getD q zB ∈ l := by rw [getB hq]; exact List.getElem_mem hq
    obtain ⟨h1, h2, h3⟩ := h.1 _ hm
    unfold okBb
    simp only [Bool.and_eq_true, decide_eq_true_eq, Bool.not_eq_true', decide_eq_false_iff_not, u62_iff]
    refine ⟨h1, ?_, h2, h3⟩
    by_cases h0 : 0 < q
    · rw [dcT h0]
      exact dcT (h.2.at (q - 1) q (by omega) hq)
    · rw [dcF h0]; rfl
def rightLB (l : List GBooked) : Bool := chkG (okBb l) l.length 0
theorem RightB_spec (l : List GBooked) (k : Nat) (hs : l.length ≤ 1000000000) (hk : l.length + 5 < k) : ledger_Right k l = some (rightLB l) := by
  have := RL_L0 l hs l.length 0 k (by omega) hk (by omega)
  rw [Int.natCast_zero] at this
  unfold ledger_Right rightLB
  simp only [this, Option.bind_some]
  cases chkG (okBb l) l.length 0 <;> rfl
end Ex
namespace Ex
open Go
set_option maxHeartbeats 0
def rf03_Range (k : Nat) : GRange → Option (Bool) := fun (r) =>
  (rf03_pair k (r.1, r.2.1, r.2.2.1, r.2.2.2.1)).bind fun o_1 =>
  bif o_1 then
   bif decide (0 ≤ r.2.2.2.2) then
    bif decide (r.2.2.2.2 ≤ 2147483647) then
     some (true)
    else
     some (false)
   else
    some (false)
  else
   some (false)
noncomputable def rf03_Range_e := entOf (P := Tryz.prog) (A := [.agg lGRange]) (R := [.one (.sc (.bool))]) Tryz.f137 rf03_Range (fun k => ⟨[rf03_pair_e k], [], [hkStr Tryz.prog]⟩) [] Tryz.func137 (by kernel_rfl) (by kernel_rfl) trivial (fun k x => by kernel_rfl) fun _ _ => by kernel_rfl
def rf07_less (k : Nat) : (GRange × GRange) → Option (Bool) := fun (a, b) =>
  bif !decide (a.1 = b.1) then
  bif decide (a.1 < b.1) then
   some (true)
  else
   some (false)
 else
  bif !decide (a.2.1 = b.2.1) then
   bif decide (a.2.1 < b.2.1) then
    some (true)
   else
    some (false)
  else
   bif decide (a.2.2.1 < b.2.2.1) then
    some (true)
   else
    some (false)
noncomputable def rf07_less_e := entOf (P := Tryz.prog) (A := [.agg lGRange, .agg lGRange]) (R := [.one (.sc (.bool))]) Tryz.f138 rf07_less (fun k => ⟨[], [], [hkStr Tryz.prog]⟩) [] Tryz.func138 (by kernel_rfl) (by kernel_rfl) trivial (fun k x => by kernel_rfl) fun _ _ => by kernel_rfl
def rf07_overlap (k : Nat) : (GRange × GRange) → Option (Bool) := fun (a, b) =>
  bif decide (a.1 = b.1) then
  bif decide (a.2.1 = b.2.1) then
   bif decide (a.2.2.1 < b.2.2.2.1) then
    bif decide (b.2.2.1 < a.2.2.2.1) then
     some (true)
    else
     some (false)
   else
    some (false)
  else
   some (false)
 else
  some (false)
noncomputable def rf07_overlap_e := entOf (P := Tryz.prog) (A := [.agg lGRange, .agg lGRange]) (R := [.one (.sc (.bool))]) Tryz.f139 rf07_overlap (fun k => ⟨[], [], [hkStr Tryz.prog]⟩) [] Tryz.func139 (by kernel_rfl) (by kernel_rfl) trivial (fun k x => by kernel_rfl) fun _ _ => by kernel_rfl
def rf07_place_L0 : Nat → ((List GRange) × GRange × Int) → Option ((Unit) ⊕ (Int))
  | 0, _ => none
  | k + 1, (l, r, i) =>
  bif decide (i < Int.ofNat (List.length l)) then
  bif decide (0 ≤ i) then
   bif decide (i < Int.ofNat (List.length l)) then
    bif decide ((List.getD l (Int.toNat i) (0, 0, 0, 0, 0)).1 = r.1) then
     bif decide (0 ≤ i) then
      bif decide (i < Int.ofNat (List.length l)) then
       bif decide ((List.getD l (Int.toNat i) (0, 0, 0, 0, 0)).2.1 = r.2.1) then
        bif decide (0 ≤ i) then
         bif decide (i < Int.ofNat (List.length l)) then
          bif decide ((List.getD l (Int.toNat i) (0, 0, 0, 0, 0)).2.2.1 = r.2.2.1) then
           some (Sum.inr i)
          else
           rf07_place_L0 k (l, r, w64 (i + 1))
         else
          none
        else
         none
       else
        rf07_place_L0 k (l, r, w64 (i + 1))
      else
       none
     else
      none
    else
     rf07_place_L0 k (l, r, w64 (i + 1))
   else
    none
  else
   none
 else
  some (Sum.inl ())
def rf07_place (k : Nat) : ((List GRange) × GRange) → Option (Int) := fun (l, r) =>
  (rf07_place_L0 k (l, r, 0)).bind fun o_1 =>
  match o_1 with
  | .inl o_2 =>
   some (-1)
  | .inr o_2 =>
   some (o_2)
noncomputable def rf07_place_e := entOf (P := Tryz.prog) (A := [.one (.row 36 kGRange), .agg lGRange]) (R := [.one (.sc (.int .i64))]) Tryz.f191 rf07_place (fun k => ⟨[], [], [hkStr Tryz.prog]⟩) [some ⟨0, [(0, .one (.ro kGRange)), (3, .box 36 trGRange), (5, .one (.sc (.int .i64)))], [], rf07_place_L0⟩] Tryz.func191 (by kernel_rfl) (by kernel_rfl) ⟨⟨fun _ => rfl, fun k x => by kernel_rfl⟩, trivial⟩ (fun k x => by kernel_rfl) fun _ _ => by kernel_rfl
def rf07_Right_L1 : Nat → ((List GRange) × Int × Int) → Option (((List GRange) × Int) ⊕ (Bool))
  | 0, _ => none
  | k + 1, (l, i, k5) =>
  bif decide (k5 < i) then
  bif decide (0 ≤ k5) then
   bif decide (k5 < Int.ofNat (List.length l)) then
    bif decide (0 ≤ i) then
     bif decide (i < Int.ofNat (List.length l)) then
      (rf07_overlap k (List.getD l (Int.toNat k5) (0, 0, 0, 0, 0), List.getD l (Int.toNat i) (0, 0, 0, 0, 0))).bind fun o_6 =>
       bif o_6 then
        some (Sum.inr false)
       else
        rf07_Right_L1 k (l, i, w64 (k5 + 1))
     else
      none
    else
     none
   else
    none
  else
   none
 else
  some (Sum.inl (l, i))
def rf07_Right_L0 : Nat → ((List GRange) × Int) → Option ((List GRange) ⊕ (Bool))
  | 0, _ => none
  | k + 1, (l, i) =>
  bif decide (i < Int.ofNat (List.length l)) then
  bif decide (0 ≤ i) then
   bif decide (i < Int.ofNat (List.length l)) then
    (rf03_Range k (List.getD l (Int.toNat i) (0, 0, 0, 0, 0))).bind fun o_4 =>
     bif o_4 then
      bif decide (0 < i) then
       bif decide (0 ≤ w64 (i - 1)) then
        bif decide (w64 (i - 1) < Int.ofNat (List.length l)) then
         bif decide (0 ≤ i) then
          bif decide (i < Int.ofNat (List.length l)) then
           (rf07_less k (List.getD l (Int.toNat (w64 (i - 1))) (0, 0, 0, 0, 0), List.getD l (Int.toNat i) (0, 0, 0, 0, 0))).bind fun o_11 =>
            bif o_11 then
             (rf07_Right_L1 k (l, i, 0)).bind fun o_13 =>
              match o_13 with
              | .inl o_14 =>
               rf07_Right_L0 k (o_14.1, w64 (o_14.2 + 1))
              | .inr o_14 =>
               some (Sum.inr o_14)
            else
             some (Sum.inr false)
          else
           none
         else
          none
        else
         none
       else
        none
      else
       (rf07_Right_L1 k (l, i, 0)).bind fun o_7 =>
        match o_7 with
        | .inl o_8 =>
         rf07_Right_L0 k (o_8.1, w64 (o_8.2 + 1))
        | .inr o_8 =>
         some (Sum.inr o_8)
     else
      some (Sum.inr false)
   else
    none
  else
   none
 else
  some (Sum.inl l)
def rf07_Right (k : Nat) : (List GRange) → Option (Bool) := fun (l) =>
  (rf07_Right_L0 k (l, 0)).bind fun o_1 =>
  match o_1 with
  | .inl o_2 =>
   bif decide (Int.ofNat (List.length o_2) ≤ 4096) then
    some (true)
   else
    some (false)
  | .inr o_2 =>
   some (o_2)
noncomputable def rf07_Right_e := entOf (P := Tryz.prog) (A := [.one (.row 36 kGRange)]) (R := [.one (.sc (.bool))]) Tryz.f84 rf07_Right (fun k => ⟨[rf03_Range_e k, rf07_less_e k, rf07_overlap_e k], [], [hkStr Tryz.prog]⟩) [some ⟨0, [(0, .one (.ro kGRange)), (3, .one (.sc (.int .i64)))], [(0, .one (.ro kGRange))], rf07_Right_L0⟩, some ⟨2, [(0, .one (.ro kGRange)), (3, .one (.sc (.int .i64))), (5, .one (.sc (.int .i64)))], [(0, .one (.ro kGRange)), (3, .one (.sc (.int .i64)))], rf07_Right_L1⟩] Tryz.func84 (by kernel_rfl) (by kernel_rfl) ⟨⟨fun _ => rfl, fun k x => by kernel_rfl⟩, ⟨⟨fun _ => rfl, fun k x => by kernel_rfl⟩, trivial⟩⟩ (fun k x => by kernel_rfl) fun _ _ => by kernel_rfl
def rf07_Same_L0 : Nat → ((List GRange) × (List GRange) × Int) → Option ((Unit) ⊕ (Bool))
  | 0, _ => none
  | k + 1, (a, b, i) =>
  bif decide (i < Int.ofNat (List.length a)) then
  bif decide (0 ≤ i) then
   bif decide (i < Int.ofNat (List.length a)) then
    bif decide (0 ≤ i) then
     bif decide (i < Int.ofNat (List.length b)) then
      bif !((List.getD a (Int.toNat i) (0, 0, 0, 0, 0)).1 == (List.getD b (Int.toNat i) (0, 0, 0, 0, 0)).1 && ((List.getD a (Int.toNat i) (0, 0, 0, 0, 0)).2.1 == (List.getD b (Int.toNat i) (0, 0, 0, 0, 0)).2.1 && ((List.getD a (Int.toNat i) (0, 0, 0, 0, 0)).2.2.1 == (List.getD b (Int.toNat i) (0, 0, 0, 0, 0)).2.2.1 && ((List.getD a (Int.toNat i) (0, 0, 0, 0, 0)).2.2.2.1 == (List.getD b (Int.toNat i) (0, 0, 0, 0, 0)).2.2.2.1 && (List.getD a (Int.toNat i) (0, 0, 0, 0, 0)).2.2.2.2 == (List.getD b (Int.toNat i) (0, 0, 0, 0, 0)).2.2.2.2)))) then
       some (Sum.inr false)
      else
       rf07_Same_L0 k (a, b, w64 (i + 1))
     else
      none
    else
     none
   else
    none
  else
   none
 else
  some (Sum.inl ())
def rf07_Same (k : Nat) : ((List GRange) × (List GRange)) → Option (Bool) := fun (a, b) =>
  bif !decide (Int.ofNat (List.length a) = Int.ofNat (List.length b)) then
  some (false)
 else
  (rf07_Same_L0 k (a, b, 0)).bind fun o_2 =>
   match o_2 with
   | .inl o_3 =>
    some (true)
   | .inr o_3 =>
    some (o_3)
noncomputable def rf07_Same_e := entOf (P := Tryz.prog) (A := [.one (.row 36 kGRange), .one (.row 36 kGRange)]) (R := [.one (.sc (.bool))]) Tryz.f87 rf07_Same (fun k => ⟨[], [], [hkStr Tryz.prog]⟩) [some ⟨0, [(0, .one (.ro kGRange)), (1, .one (.ro kGRange)), (5, .one (.sc (.int .i64)))], [], rf07_Same_L0⟩] Tryz.func87 (by kernel_rfl) (by kernel_rfl) ⟨⟨fun _ => rfl, fun k x => by kernel_rfl⟩, trivial⟩ (fun k x => by kernel_rfl) fun _ _ => by kernel_rfl
def rf07_Copy (k : Nat) : (List GRange) → Option (List GRange) := fun (l) =>
  bif decide ((0 + List.length l) * 40 ≤ 140737488355328) then
  some (l)
 else
  none
noncomputable def rf07_Copy_e := entOf (P := Tryz.prog) (A := [.one (.row 36 kGRange)]) (R := [.one (.row 36 kGRange)]) Tryz.f190 rf07_Copy (fun k => ⟨[], [], [hkStr Tryz.prog]⟩) [] Tryz.func190 (by kernel_rfl) (by kernel_rfl) trivial (fun k x => by kernel_rfl) fun _ _ => by kernel_rfl
def rf07_Add_L0 : Nat → ((List GRange) × GRange × Int × Int) → Option (((List GRange) × GRange × Int) ⊕ ((List GRange) × Int))
  | 0, _ => none
  | k + 1, (l, r, k6, i) =>
  bif decide (i < Int.ofNat (List.length l)) then
  bif decide (0 ≤ i) then
   bif decide (i < Int.ofNat (List.length l)) then
    (rf07_overlap k (List.getD l (Int.toNat i) (0, 0, 0, 0, 0), r)).bind fun o_4 =>
     bif o_4 then
      (rf07_Copy k l).bind fun o_6 =>
       some (Sum.inr (o_6, 5))
     else
      bif decide (0 ≤ i) then
       bif decide (i < Int.ofNat (List.length l)) then
        (rf07_less k (List.getD l (Int.toNat i) (0, 0, 0, 0, 0), r)).bind fun o_8 =>
         bif o_8 then
          rf07_Add_L0 k (l, r, w64 (i + 1), w64 (i + 1))
         else
          rf07_Add_L0 k (l, r, k6, w64 (i + 1))
       else
        none
      else
       none
   else
    none
  else
   none
 else
  some (Sum.inl (l, r, k6))
def rf07_Add (k : Nat) : ((List GRange) × GRange) → Option ((List GRange) × Int) := fun (l, r) =>
  (rf03_Range k r).bind fun o_1 =>
  bif o_1 then
   bif decide (4096 ≤ Int.ofNat (List.length l)) then
    (rf07_Copy k l).bind fun o_4 =>
     some ((o_4, 3))
   else
    (rf07_Add_L0 k (l, r, 0, 0)).bind fun o_4 =>
     match o_4 with
     | .inl o_5 =>
      bif decide (0 ≤ o_5.2.2) then
       bif decide (o_5.2.2 ≤ Int.ofNat (List.length o_5.1)) then
        (rf07_Copy k (List.take (Int.toNat o_5.2.2) o_5.1)).bind fun o_8 =>
         bif decide ((List.length o_8 + List.length [o_5.2.1]) * 40 ≤ 140737488355328) then
          bif decide (0 ≤ o_5.2.2) then
           bif decide (o_5.2.2 ≤ Int.ofNat (List.length o_5.1)) then
            bif decide ((List.length (o_8 ++ [o_5.2.1]) + List.length (List.drop (Int.toNat o_5.2.2) o_5.1)) * 40 ≤ 140737488355328) then
             some ((o_8 ++ [o_5.2.1] ++ List.drop (Int.toNat o_5.2.2) o_5.1, 0))
            else
             none
           else
            none
          else
           none
         else
          none
       else
        none
      else
       none
     | .inr o_5 =>
      some (o_5)
  else
   (rf07_Copy k l).bind fun o_3 =>
    some ((o_3, 1))
noncomputable def rf07_Add_e := entOf (P := Tryz.prog) (A := [.one (.row 36 kGRange), .agg lGRange]) (R := [.one (.row 36 kGRange), .one (.sc (.int .i64))]) Tryz.f142 rf07_Add (fun k => ⟨[rf03_Range_e k, rf07_less_e k, rf07_overlap_e k, rf07_Copy_e k], [], [hkStr Tryz.prog]⟩) [some ⟨0, [(0, .one (.ro kGRange)), (3, .box 36 trGRange), (6, .one (.sc (.int .i64))), (7, .one (.sc (.int .i64)))], [(0, .one (.ro kGRange)), (3, .box 36 trGRange), (6, .one (.sc (.int .i64)))], rf07_Add_L0⟩] Tryz.func142 (by kernel_rfl) (by kernel_rfl) ⟨⟨fun _ => rfl, fun k x => by kernel_rfl⟩, trivial⟩ (fun k x => by kernel_rfl) fun _ _ => by kernel_rfl
def rf07_Delete (k : Nat) : ((List GRange) × GRange) → Option ((List GRange) × Int) := fun (l, r) =>
  (rf07_place k (l, r)).bind fun o_1 =>
  bif decide (o_1 < 0) then
   (rf07_Copy k l).bind fun o_3 =>
    some ((o_3, 6))
  else
   bif decide (0 ≤ o_1) then
    bif decide (o_1 ≤ Int.ofNat (List.length l)) then
     (rf07_Copy k (List.take (Int.toNat o_1) l)).bind fun o_5 =>
      bif decide (0 ≤ w64 (o_1 + 1)) then
       bif decide (w64 (o_1 + 1) ≤ Int.ofNat (List.length l)) then
        bif decide ((List.length o_5 + List.length (List.drop (Int.toNat (w64 (o_1 + 1))) l)) * 40 ≤ 140737488355328) then
         some ((o_5 ++ List.drop (Int.toNat (w64 (o_1 + 1))) l, 0))
        else
         none
       else
        none
      else
       none
    else
     none
   else
    none
noncomputable def rf07_Delete_e := entOf (P := Tryz.prog) (A := [.one (.row 36 kGRange), .agg lGRange]) (R := [.one (.row 36 kGRange), .one (.sc (.int .i64))]) Tryz.f144 rf07_Delete (fun k => ⟨[rf07_Copy_e k, rf07_place_e k], [], [hkStr Tryz.prog]⟩) [] Tryz.func144 (by kernel_rfl) (by kernel_rfl) trivial (fun k x => by kernel_rfl) fun _ _ => by kernel_rfl
def rf07_Change (k : Nat) : ((List GRange) × GRange) → Option ((List GRange) × Int) := fun (l, r) =>
  (rf07_Copy k l).bind fun o_1 =>
  bif decide (r.2.2.2.2 < 0) then
   some ((o_1, 1))
  else
   bif decide (2147483647 < r.2.2.2.2) then
    some ((o_1, 1))
   else
    (rf07_place k (l, r)).bind fun o_4 =>
     bif decide (o_4 < 0) then
      some ((o_1, 6))
     else
      bif decide (0 ≤ o_4) then
       bif decide (o_4 < Int.ofNat (List.length o_1)) then
        some ((List.set o_1 (Int.toNat o_4) ((List.getD o_1 (Int.toNat o_4) (0, 0, 0, 0, 0)).1, (List.getD o_1 (Int.toNat o_4) (0, 0, 0, 0, 0)).2.1, (List.getD o_1 (Int.toNat o_4) (0, 0, 0, 0, 0)).2.2.1, (List.getD o_1 (Int.toNat o_4) (0, 0, 0, 0, 0)).2.2.2.1, r.2.2.2.2), 0))
       else
        none
      else
       none
noncomputable def rf07_Change_e := entOf (P := Tryz.prog) (A := [.one (.row 36 kGRange), .agg lGRange]) (R := [.one (.row 36 kGRange), .one (.sc (.int .i64))]) Tryz.f146 rf07_Change (fun k => ⟨[rf07_Copy_e k, rf07_place_e k], [], [hkStr Tryz.prog]⟩) [] Tryz.func146 (by kernel_rfl) (by kernel_rfl) trivial (fun k x => by kernel_rfl) fun _ _ => by kernel_rfl
def rf07_Expire_L0 : Nat → ((List GRange) × Int × (List GRange) × Int) → Option ((List GRange) ⊕ (List GRange))
  | 0, _ => none
  | k + 1, (l, now, out5, i) =>
  bif decide (i < Int.ofNat (List.length l)) then
  bif decide (0 ≤ i) then
   bif decide (i < Int.ofNat (List.length l)) then
    bif decide (now < (List.getD l (Int.toNat i) (0, 0, 0, 0, 0)).2.2.2.1) then
     bif decide (0 ≤ i) then
      bif decide (i < Int.ofNat (List.length l)) then
       bif decide ((List.length out5 + List.length [List.getD l (Int.toNat i) (0, 0, 0, 0, 0)]) * 40 ≤ 140737488355328) then
        rf07_Expire_L0 k (l, now, out5 ++ [List.getD l (Int.toNat i) (0, 0, 0, 0, 0)], w64 (i + 1))
       else
        none
      else
       none
     else
      none
    else
     rf07_Expire_L0 k (l, now, out5, w64 (i + 1))
   else
    none
  else
   none
 else
  some (Sum.inl out5)
def rf07_Expire (k : Nat) : ((List GRange) × Int) → Option (List GRange) := fun (l, now) =>
  (rf07_Expire_L0 k (l, now, [], 0)).bind fun o_1 =>
  match o_1 with
  | .inl o_2 =>
   some (o_2)
  | .inr o_2 =>
   some (o_2)
noncomputable def rf07_Expire_e := entOf (P := Tryz.prog) (A := [.one (.row 36 kGRange), .one (.sc (.int .i64))]) (R := [.one (.row 36 kGRange)]) Tryz.f151 rf07_Expire (fun k => ⟨[], [], [hkStr Tryz.prog]⟩) [some ⟨0, [(0, .one (.ro kGRange)), (1, .one (.sc (.int .i64))), (5, .one (.own 36 kGRange)), (6, .one (.sc (.int .i64)))], [(5, .one (.own 36 kGRange))], rf07_Expire_L0⟩] Tryz.func151 (by kernel_rfl) (by kernel_rfl) ⟨⟨fun _ => rfl, fun k x => by kernel_rfl⟩, trivial⟩ (fun k x => by kernel_rfl) fun _ _ => by kernel_rfl
def rf04_noRange (k : Nat) : GRange → Option (Bool) := fun (r) =>
  bif r.1 == 0 && (r.2.1 == 0 && (r.2.2.1 == 0 && (r.2.2.2.1 == 0 && r.2.2.2.2 == 0))) then
  some (true)
 else
  some (false)
noncomputable def rf04_noRange_e := entOf (P := Tryz.prog) (A := [.agg lGRange]) (R := [.one (.sc (.bool))]) Tryz.f186 rf04_noRange (fun k => ⟨[], [], [hkStr Tryz.prog]⟩) [] Tryz.func186 (by kernel_rfl) (by kernel_rfl) trivial (fun k x => by kernel_rfl) fun _ _ => by kernel_rfl
def rf04_whole (k : Nat) : (Int × Int) → Option (GContact) := fun (id, rate) =>
  some ((id, 1, 2, 0, 1, rate))
noncomputable def rf04_whole_e := entOf (P := Tryz.prog) (A := [.one (.sc (.int .i64)), .one (.sc (.int .i64))]) (R := [.agg lGContact]) Tryz.f187 rf04_whole (fun k => ⟨[], [], [hkStr Tryz.prog]⟩) [] Tryz.func187 (by kernel_rfl) (by kernel_rfl) trivial (fun k x => by kernel_rfl) fun _ _ => by kernel_rfl
def rf04_noContact (k : Nat) : GContact → Option (Bool) := fun (c0) =>
  bif c0.1 == 0 && (c0.2.1 == 0 && (c0.2.2.1 == 0 && (c0.2.2.2.1 == 0 && (c0.2.2.2.2.1 == 0 && c0.2.2.2.2.2 == 0)))) then
  some (true)
 else
  some (false)
noncomputable def rf04_noContact_e := entOf (P := Tryz.prog) (A := [.agg lGContact]) (R := [.one (.sc (.bool))]) Tryz.f188 rf04_noContact (fun k => ⟨[], [], [hkStr Tryz.prog]⟩) [] Tryz.func188 (by kernel_rfl) (by kernel_rfl) trivial (fun k x => by kernel_rfl) fun _ _ => by kernel_rfl
def rf04_Right (k : Nat) : GDirective → Option (Bool) := fun (d) =>
  bif decide (d.2.1 = 1) then
  (rf04_noRange k d.2.2.2.2.2.2.2.2).bind fun o_2 =>
   bif o_2 then
    bif decide (d.1 = 1) then
     (rf03_Contact k (d.2.2.1, d.2.2.2.1, d.2.2.2.2.1, d.2.2.2.2.2.1, d.2.2.2.2.2.2.1, d.2.2.2.2.2.2.2.1)).bind fun o_5 =>
      bif o_5 then
       some (true)
      else
       some (false)
    else
     bif decide (d.1 = 2) then
      bif d.2.2.1 == d.2.2.1 && (d.2.2.2.1 == 0 && (d.2.2.2.2.1 == 0 && (d.2.2.2.2.2.1 == 0 && (d.2.2.2.2.2.2.1 == 0 && d.2.2.2.2.2.2.2.1 == 0)))) then
       (rf04_whole k (d.2.2.1, 1)).bind fun o_7 =>
        (rf03_Contact k o_7).bind fun o_8 =>
         bif o_8 then
          some (true)
         else
          some (false)
      else
       some (false)
     else
      bif decide (d.1 = 3) then
       bif d.2.2.1 == d.2.2.1 && (d.2.2.2.1 == 0 && (d.2.2.2.2.1 == 0 && (d.2.2.2.2.2.1 == 0 && (d.2.2.2.2.2.2.1 == 0 && d.2.2.2.2.2.2.2.1 == d.2.2.2.2.2.2.2.1)))) then
        (rf04_whole k (d.2.2.1, d.2.2.2.2.2.2.2.1)).bind fun o_8 =>
         (rf03_Contact k o_8).bind fun o_9 =>
          bif o_9 then
           some (true)
          else
           some (false)
       else
        some (false)
      else
       bif decide (d.2.1 = 2) then
        (rf04_noContact k (d.2.2.1, d.2.2.2.1, d.2.2.2.2.1, d.2.2.2.2.2.1, d.2.2.2.2.2.2.1, d.2.2.2.2.2.2.2.1)).bind fun o_8 =>
         bif o_8 then
          bif decide (d.1 = 1) then
           (rf03_Range k d.2.2.2.2.2.2.2.2).bind fun o_11 =>
            bif o_11 then
             some (true)
            else
             some (false)
          else
           bif decide (d.1 = 2) then
            bif d.2.2.2.2.2.2.2.2.1 == d.2.2.2.2.2.2.2.2.1 && (d.2.2.2.2.2.2.2.2.2.1 == d.2.2.2.2.2.2.2.2.2.1 && (d.2.2.2.2.2.2.2.2.2.2.1 == d.2.2.2.2.2.2.2.2.2.2.1 && (d.2.2.2.2.2.2.2.2.2.2.2.1 == 0 && d.2.2.2.2.2.2.2.2.2.2.2.2 == 0))) then
             (rf03_Range k (d.2.2.2.2.2.2.2.2.1, d.2.2.2.2.2.2.2.2.2.1, d.2.2.2.2.2.2.2.2.2.2.1, 2147483647, d.2.2.2.2.2.2.2.2.2.2.2.2)).bind fun o_13 =>
              bif o_13 then
               some (true)
              else
               some (false)
            else
             some (false)
           else
            bif decide (d.1 = 3) then
             bif decide (d.2.2.2.2.2.2.2.2.2.2.2.1 = 0) then
              (rf03_Range k (d.2.2.2.2.2.2.2.2.1, d.2.2.2.2.2.2.2.2.2.1, d.2.2.2.2.2.2.2.2.2.2.1, 2147483647, d.2.2.2.2.2.2.2.2.2.2.2.2)).bind fun o_14 =>
               bif o_14 then
                some (true)
               else
                some (false)
             else
              some (false)
            else
             some (false)
         else
          some (false)
       else
        some (false)
   else
    bif decide (d.2.1 = 2) then
     (rf04_noContact k (d.2.2.1, d.2.2.2.1, d.2.2.2.2.1, d.2.2.2.2.2.1, d.2.2.2.2.2.2.1, d.2.2.2.2.2.2.2.1)).bind fun o_5 =>
      bif o_5 then
       bif decide (d.1 = 1) then
        (rf03_Range k d.2.2.2.2.2.2.2.2).bind fun o_8 =>
         bif o_8 then
          some (true)
         else
          some (false)
       else
        bif decide (d.1 = 2) then
         bif d.2.2.2.2.2.2.2.2.1 == d.2.2.2.2.2.2.2.2.1 && (d.2.2.2.2.2.2.2.2.2.1 == d.2.2.2.2.2.2.2.2.2.1 && (d.2.2.2.2.2.2.2.2.2.2.1 == d.2.2.2.2.2.2.2.2.2.2.1 && (d.2.2.2.2.2.2.2.2.2.2.2.1 == 0 && d.2.2.2.2.2.2.2.2.2.2.2.2 == 0))) then
          (rf03_Range k (d.2.2.2.2.2.2.2.2.1, d.2.2.2.2.2.2.2.2.2.1, d.2.2.2.2.2.2.2.2.2.2.1, 2147483647, d.2.2.2.2.2.2.2.2.2.2.2.2)).bind fun o_10 =>
           bif o_10 then
            some (true)
           else
            some (false)
         else
          some (false)
        else
         bif decide (d.1 = 3) then
          bif decide (d.2.2.2.2.2.2.2.2.2.2.2.1 = 0) then
           (rf03_Range k (d.2.2.2.2.2.2.2.2.1, d.2.2.2.2.2.2.2.2.2.1, d.2.2.2.2.2.2.2.2.2.2.1, 2147483647, d.2.2.2.2.2.2.2.2.2.2.2.2)).bind fun o_11 =>
            bif o_11 then
             some (true)
            else
             some (false)
          else
           some (false)
         else
          some (false)
      else
       some (false)
    else
     some (false)
 else
  bif decide (d.2.1 = 2) then
   (rf04_noContact k (d.2.2.1, d.2.2.2.1, d.2.2.2.2.1, d.2.2.2.2.2.1, d.2.2.2.2.2.2.1, d.2.2.2.2.2.2.2.1)).bind fun o_3 =>
    bif o_3 then
     bif decide (d.1 = 1) then
      (rf03_Range k d.2.2.2.2.2.2.2.2).bind fun o_6 =>
       bif o_6 then
        some (true)
       else
        some (false)
     else
      bif decide (d.1 = 2) then
       bif d.2.2.2.2.2.2.2.2.1 == d.2.2.2.2.2.2.2.2.1 && (d.2.2.2.2.2.2.2.2.2.1 == d.2.2.2.2.2.2.2.2.2.1 && (d.2.2.2.2.2.2.2.2.2.2.1 == d.2.2.2.2.2.2.2.2.2.2.1 && (d.2.2.2.2.2.2.2.2.2.2.2.1 == 0 && d.2.2.2.2.2.2.2.2.2.2.2.2 == 0))) then
        (rf03_Range k (d.2.2.2.2.2.2.2.2.1, d.2.2.2.2.2.2.2.2.2.1, d.2.2.2.2.2.2.2.2.2.2.1, 2147483647, d.2.2.2.2.2.2.2.2.2.2.2.2)).bind fun o_8 =>
         bif o_8 then
          some (true)
         else
          some (false)
       else
        some (false)
      else
       bif decide (d.1 = 3) then
        bif decide (d.2.2.2.2.2.2.2.2.2.2.2.1 = 0) then
         (rf03_Range k (d.2.2.2.2.2.2.2.2.1, d.2.2.2.2.2.2.2.2.2.1, d.2.2.2.2.2.2.2.2.2.2.1, 2147483647, d.2.2.2.2.2.2.2.2.2.2.2.2)).bind fun o_9 =>
          bif o_9 then
           some (true)
          else
           some (false)
        else
         some (false)
       else
        some (false)
    else
     some (false)
  else
   some (false)
noncomputable def rf04_Right_e := entOf (P := Tryz.prog) (A := [.agg lGDirective]) (R := [.one (.sc (.bool))]) Tryz.f140 rf04_Right (fun k => ⟨[rf03_Contact_e k, rf03_Range_e k, rf04_noRange_e k, rf04_whole_e k, rf04_noContact_e k], [], [hkStr Tryz.prog]⟩) [] Tryz.func140 (by kernel_rfl) (by kernel_rfl) trivial (fun k x => by kernel_rfl) fun _ _ => by kernel_rfl
def rf08_Right_L1 : Nat → (GPlan × Int) → Option ((Unit) ⊕ (Bool))
  | 0, _ => none
  | k + 1, (p, i) =>
  bif decide (i < Int.ofNat (List.length p.2.1)) then
  bif decide (0 ≤ i) then
   bif decide (i < Int.ofNat (List.length p.2.1)) then
    bif decide ((List.getD p.2.1 (Int.toNat i) (0, 0, 0, 0, 0)).2.2.2.1 ≤ p.2.2.1) then
     some (Sum.inr false)
    else
     rf08_Right_L1 k (p, w64 (i + 1))
   else
    none
  else
   none
 else
  some (Sum.inl ())
def rf08_Right_L0 : Nat → (GPlan × Int) → Option ((GPlan) ⊕ (Bool))
  | 0, _ => none
  | k + 1, (p, i) =>
  bif decide (i < Int.ofNat (List.length p.1)) then
  bif decide (0 ≤ i) then
   bif decide (i < Int.ofNat (List.length p.1)) then
    bif decide ((List.getD p.1 (Int.toNat i) (0, 0, 0, 0, 0, 0)).2.2.2.2.1 ≤ p.2.2.1) then
     some (Sum.inr false)
    else
     rf08_Right_L0 k (p, w64 (i + 1))
   else
    none
  else
   none
 else
  some (Sum.inl p)
def rf08_Right (k : Nat) : GPlan → Option (Bool) := fun (p) =>
  (rf06_Right k p.1).bind fun o_1 =>
  bif o_1 then
   (rf07_Right k p.2.1).bind fun o_3 =>
    bif o_3 then
     bif decide (p.2.2.1 < 0) then
      some (false)
     else
      bif decide (2147483647 < p.2.2.1) then
       some (false)
      else
       bif decide (p.2.2.2 < 0) then
        some (false)
       else
        bif decide (1099511627776 < p.2.2.2) then
         some (false)
        else
         (rf08_Right_L0 k (p, 0)).bind fun o_9 =>
          match o_9 with
          | .inl o_10 =>
           (rf08_Right_L1 k (o_10, 0)).bind fun o_11 =>
            match o_11 with
            | .inl o_12 =>
             some (true)
            | .inr o_12 =>
             some (o_12)
          | .inr o_10 =>
           some (o_10)
    else
     some (false)
  else
   (rf07_Right k p.2.1).bind fun o_3 =>
    bif o_3 then
     some (false)
    else
     some (false)
noncomputable def rf08_Right_e := entOf (P := Tryz.prog) (A := [.agg lGPlan]) (R := [.one (.sc (.bool))]) Tryz.f41 rf08_Right (fun k => ⟨[rf06_Right_e k, rf07_Right_e k], [], [hkStr Tryz.prog]⟩) [some ⟨0, [(1, .box 25 trGPlan), (5, .one (.sc (.int .i64)))], [(1, .box 25 trGPlan)], rf08_Right_L0⟩, some ⟨2, [(1, .box 25 trGPlan), (6, .one (.sc (.int .i64)))], [], rf08_Right_L1⟩] Tryz.func41 (by kernel_rfl) (by kernel_rfl) ⟨⟨fun _ => rfl, fun k x => by kernel_rfl⟩, ⟨⟨fun _ => rfl, fun k x => by kernel_rfl⟩, trivial⟩⟩ (fun k x => by kernel_rfl) fun _ _ => by kernel_rfl
def rf08_Same (k : Nat) : (GPlan × GPlan) → Option (Bool) := fun (a, b) =>
  (rf06_Same k (a.1, b.1)).bind fun o_1 =>
  bif o_1 then
   (rf07_Same k (a.2.1, b.2.1)).bind fun o_3 =>
    bif o_3 then
     bif decide (a.2.2.1 = b.2.2.1) then
      bif decide (a.2.2.2 = b.2.2.2) then
       some (true)
      else
       some (false)
     else
      some (false)
    else
     some (false)
  else
   (rf07_Same k (a.2.1, b.2.1)).bind fun o_3 =>
    bif o_3 then
     some (false)
    else
     some (false)
noncomputable def rf08_Same_e := entOf (P := Tryz.prog) (A := [.agg lGPlan, .agg lGPlan]) (R := [.one (.sc (.bool))]) Tryz.f45 rf08_Same (fun k => ⟨[rf06_Same_e k, rf07_Same_e k], [], [hkStr Tryz.prog]⟩) [] Tryz.func45 (by kernel_rfl) (by kernel_rfl) trivial (fun k x => by kernel_rfl) fun _ _ => by kernel_rfl
def rf08_Copy (k : Nat) : GPlan → Option (GPlan) := fun (p) =>
  bif decide ((0 + List.length p.1) * 48 ≤ 140737488355328) then
  bif decide ((0 + List.length p.2.1) * 40 ≤ 140737488355328) then
   some (p)
  else
   none
 else
  none
noncomputable def rf08_Copy_e := entOf (P := Tryz.prog) (A := [.agg lGPlan]) (R := [.agg lGPlan]) Tryz.f46 rf08_Copy (fun k => ⟨[], [], [hkStr Tryz.prog]⟩) [] Tryz.func46 (by kernel_rfl) (by kernel_rfl) trivial (fun k x => by kernel_rfl) fun _ _ => by kernel_rfl
def rf08_Apply (k : Nat) : (GPlan × GDirective) → Option (GPlan × Int) := fun (p, d) =>
  (rf08_Copy k p).bind fun o_1 =>
  (rf04_Right k d).bind fun o_2 =>
   bif o_2 then
    bif decide (d.2.1 = 1) then
     bif decide (d.1 = 1) then
      bif decide (d.2.2.2.2.2.2.1 ≤ p.2.2.1) then
       some ((o_1, 7))
      else
       bif decide (d.1 = 1) then
        (rf06_Add k (p.1, d.2.2.1, d.2.2.2.1, d.2.2.2.2.1, d.2.2.2.2.2.1, d.2.2.2.2.2.2.1, d.2.2.2.2.2.2.2.1)).bind fun o_8 =>
         bif !decide (o_8.2 = 0) then
          some ((o_1, o_8.2))
         else
          (rf08_Copy k (o_8.1, p.2.1, p.2.2.1, mn (w64 (p.2.2.2 + 1)) 1099511627776)).bind fun o_10 =>
           some ((o_10, 0))
       else
        bif decide (d.1 = 2) then
         (rf06_Delete k (p.1, d.2.2.1)).bind fun o_9 =>
          bif !decide (o_9.2 = 0) then
           some ((o_1, o_9.2))
          else
           (rf08_Copy k (o_9.1, p.2.1, p.2.2.1, mn (w64 (p.2.2.2 + 1)) 1099511627776)).bind fun o_11 =>
            some ((o_11, 0))
        else
         (rf06_Change k (p.1, d.2.2.1, d.2.2.2.2.2.2.2.1)).bind fun o_9 =>
          bif !decide (o_9.2 = 0) then
           some ((o_1, o_9.2))
          else
           (rf08_Copy k (o_9.1, p.2.1, p.2.2.1, mn (w64 (p.2.2.2 + 1)) 1099511627776)).bind fun o_11 =>
            some ((o_11, 0))
     else
      bif decide (d.1 = 1) then
       (rf06_Add k (p.1, d.2.2.1, d.2.2.2.1, d.2.2.2.2.1, d.2.2.2.2.2.1, d.2.2.2.2.2.2.1, d.2.2.2.2.2.2.2.1)).bind fun o_7 =>
        bif !decide (o_7.2 = 0) then
         some ((o_1, o_7.2))
        else
         (rf08_Copy k (o_7.1, p.2.1, p.2.2.1, mn (w64 (p.2.2.2 + 1)) 1099511627776)).bind fun o_9 =>
          some ((o_9, 0))
      else
       bif decide (d.1 = 2) then
        (rf06_Delete k (p.1, d.2.2.1)).bind fun o_8 =>
         bif !decide (o_8.2 = 0) then
          some ((o_1, o_8.2))
         else
          (rf08_Copy k (o_8.1, p.2.1, p.2.2.1, mn (w64 (p.2.2.2 + 1)) 1099511627776)).bind fun o_10 =>
           some ((o_10, 0))
       else
        (rf06_Change k (p.1, d.2.2.1, d.2.2.2.2.2.2.2.1)).bind fun o_8 =>
         bif !decide (o_8.2 = 0) then
          some ((o_1, o_8.2))
         else
          (rf08_Copy k (o_8.1, p.2.1, p.2.2.1, mn (w64 (p.2.2.2 + 1)) 1099511627776)).bind fun o_10 =>
           some ((o_10, 0))
    else
     bif decide (d.1 = 1) then
      bif decide (d.2.2.2.2.2.2.2.2.2.2.2.1 ≤ p.2.2.1) then
       some ((o_1, 7))
      else
       bif decide (d.1 = 1) then
        (rf07_Add k (p.2.1, d.2.2.2.2.2.2.2.2)).bind fun o_8 =>
         bif !decide (o_8.2 = 0) then
          some ((o_1, o_8.2))
         else
          (rf08_Copy k (p.1, o_8.1, p.2.2.1, mn (w64 (p.2.2.2 + 1)) 1099511627776)).bind fun o_10 =>
           some ((o_10, 0))
       else
        bif decide (d.1 = 2) then
         (rf07_Delete k (p.2.1, d.2.2.2.2.2.2.2.2)).bind fun o_9 =>
          bif !decide (o_9.2 = 0) then
           some ((o_1, o_9.2))
          else
           (rf08_Copy k (p.1, o_9.1, p.2.2.1, mn (w64 (p.2.2.2 + 1)) 1099511627776)).bind fun o_11 =>
            some ((o_11, 0))
        else
         (rf07_Change k (p.2.1, d.2.2.2.2.2.2.2.2)).bind fun o_9 =>
          bif !decide (o_9.2 = 0) then
           some ((o_1, o_9.2))
          else
           (rf08_Copy k (p.1, o_9.1, p.2.2.1, mn (w64 (p.2.2.2 + 1)) 1099511627776)).bind fun o_11 =>
            some ((o_11, 0))
     else
      bif decide (d.1 = 1) then
       (rf07_Add k (p.2.1, d.2.2.2.2.2.2.2.2)).bind fun o_7 =>
        bif !decide (o_7.2 = 0) then
         some ((o_1, o_7.2))
        else
         (rf08_Copy k (p.1, o_7.1, p.2.2.1, mn (w64 (p.2.2.2 + 1)) 1099511627776)).bind fun o_9 =>
          some ((o_9, 0))
      else
       bif decide (d.1 = 2) then
        (rf07_Delete k (p.2.1, d.2.2.2.2.2.2.2.2)).bind fun o_8 =>
         bif !decide (o_8.2 = 0) then
          some ((o_1, o_8.2))
         else
          (rf08_Copy k (p.1, o_8.1, p.2.2.1, mn (w64 (p.2.2.2 + 1)) 1099511627776)).bind fun o_10 =>
           some ((o_10, 0))
       else
        (rf07_Change k (p.2.1, d.2.2.2.2.2.2.2.2)).bind fun o_8 =>
         bif !decide (o_8.2 = 0) then
          some ((o_1, o_8.2))
         else
          (rf08_Copy k (p.1, o_8.1, p.2.2.1, mn (w64 (p.2.2.2 + 1)) 1099511627776)).bind fun o_10 =>
           some ((o_10, 0))
   else
    some ((o_1, 1))
noncomputable def rf08_Apply_e := entOf (P := Tryz.prog) (A := [.agg lGPlan, .agg lGDirective]) (R := [.agg lGPlan, .one (.sc (.int .i64))]) Tryz.f88 rf08_Apply (fun k => ⟨[rf08_Copy_e k, rf04_Right_e k, rf06_Add_e k, rf07_Add_e k, rf06_Delete_e k, rf07_Delete_e k, rf06_Change_e k, rf07_Change_e k], [], [hkStr Tryz.prog]⟩) [] Tryz.func88 (by kernel_rfl) (by kernel_rfl) trivial (fun k x => by kernel_rfl) fun _ _ => by kernel_rfl
def rf08_Advance (k : Nat) : (GPlan × Int) → Option (GPlan × (List Int) × Int) := fun (p, now) =>
  bif decide (now < p.2.2.1) then
  (rf08_Copy k p).bind fun o_2 =>
   some ((o_2, [], 7))
 else
  bif decide (2147483647 < now) then
   (rf08_Copy k p).bind fun o_3 =>
    some ((o_3, [], 7))
  else
   (rf06_Expire k (p.1, now)).bind fun o_3 =>
    (rf07_Expire k (p.2.1, now)).bind fun o_4 =>
     bif !decide (now = p.2.2.1) then
      some (((o_3.1, o_4, now, mn (w64 (p.2.2.2 + 1)) 1099511627776), o_3.2, 0))
     else
      some (((o_3.1, o_4, now, p.2.2.2), o_3.2, 0))
noncomputable def rf08_Advance_e := entOf (P := Tryz.prog) (A := [.agg lGPlan, .one (.sc (.int .i64))]) (R := [.agg lGPlan, .one (.row 3 [.int .i64]), .one (.sc (.int .i64))]) Tryz.f93 rf08_Advance (fun k => ⟨[rf08_Copy_e k, rf06_Expire_e k, rf07_Expire_e k], [], [hkStr Tryz.prog]⟩) [] Tryz.func93 (by kernel_rfl) (by kernel_rfl) trivial (fun k x => by kernel_rfl) fun _ _ => by kernel_rfl
end Ex
namespace Wrd
open Go.Lib
def blk (c : UInt8) : Bool := c == 32 || c == 9 || c == 13
def wgo : List UInt8 → List UInt8 → List (List UInt8)
  | [], cur => if cur = [] then [] else [cur]
  | c :: l, cur => if blk c = true then (if cur = [] then wgo l [] else cur :: wgo l []) else wgo l (cur ++ [c])
def bare (l : List UInt8) : List UInt8 := l.takeWhile fun c => c != 35
def wordsL (l : List UInt8) : List (List UInt8) := wgo (bare l) []
theorem wgo_run : ∀ (m l cur : List UInt8), (∀ c ∈ m, blk c = false) → wgo (m ++ l) cur = wgo l (cur ++ m)
  | [], l, cur, _ => by simp
  | c :: m, l, cur, h => by
    rw [List.cons_append]
    simp only [wgo]
    rw [if_neg (by rw [h c List.mem_cons_self]; simp), wgo_run m l (cur ++ [c]) (fun d hd => h d (List.mem_cons_of_mem _ hd))]
    simp
theorem blk_high {c : UInt8} (h : 128 ≤ c.toNat) : blk c = false := by
  unfold blk
  have h1 : c ≠ 32 := fun e => by subst e; exact absurd h (by decide)
  have h2 : c ≠ 9 := fun e => by subst e; exact absurd h (by decide)
  have h3 : c ≠ 13 := fun e => by subst e; exact absurd h (by decide)
  simp [h1, h2, h3]
theorem get_of (s : ByteArray) (i : Nat) (h : i < s.size) : s.get! i = s[i]'h := by
  simp [ByteArray.get!, getElem!_pos, h]
  rfl
theorem wide (s : ByteArray) (pos : Nat) (h : pos < s.size) (ha : 128 ≤ (s[pos]'h).toNat) :
    pos + (Utf8.decode s pos).2 ≤ s.size ∧ ∀ j, (hj : j < s.size) → pos ≤ j → j < pos + (Utf8.decode s pos).2 → 128 ≤ (s[j]'hj).toNat := by
  have e := decode_at s pos
  obtain ⟨c1, c2, c3, c4⟩ := decodeN_conts (s.size - pos) (s.get! pos).toNat (s.get! (pos + 1)).toNat (s.get! (pos + 2)).toNat (s.get! (pos + 3)).toNat
  have hw := decodeN_le_n' (s.size - pos) (s.get! pos).toNat (s.get! (pos + 1)).toNat (s.get! (pos + 2)).toNat (s.get! (pos + 3)).toNat (by omega)
  rw [← e] at c1 c2 c3 c4 hw
  refine ⟨by omega, fun j hj h1 h2 => ?_⟩
  obtain ⟨d, rfl⟩ : ∃ d, j = pos + d := ⟨j - pos, by omega⟩
  have hd : d = 0 ∨ d = 1 ∨ d = 2 ∨ d = 3 := by omega
  rcases hd with rfl | rfl | rfl | rfl
  · exact ha
  · have := (c1 (by omega)).1; rw [get_of s (pos + 1) hj] at this; omega
  · have := (c2 (by omega)).1; rw [get_of s (pos + 2) hj] at this; omega
  · have := (c3 (by omega)).1; rw [get_of s (pos + 3) hj] at this; omega
def sub (s : ByteArray) (i j : Nat) : List UInt8 := (s.data.toList.drop i).take (j - i)
theorem drop_split (s : ByteArray) (i j : Nat) (h : i ≤ j) : s.data.toList.drop i = sub s i j ++ s.data.toList.drop j := by
  unfold sub
  have h1 := (List.take_append_drop (j - i) (s.data.toList.drop i)).symm
  rw [List.drop_drop, show i + (j - i) = j by omega] at h1
  exact h1
theorem sub_app (s : ByteArray) (i j k : Nat) (h : i ≤ j) (h2 : j ≤ k) : sub s i j ++ sub s j k = sub s i k := by
  have h1 := drop_split s i k (by omega)
  have h3 := drop_split s i j h
  have h4 := drop_split s j k h2
  rw [h4, ← List.append_assoc] at h3
  rw [h1] at h3
  exact (List.append_cancel_right h3).symm
theorem sub_extract (s : ByteArray) (i j : Nat) : (s.extract i j).data.toList = sub s i j := by
  unfold sub
  simp [ByteArray.data_extract]
theorem sub_ne (s : ByteArray) (i j : Nat) (h : i < j) (hj : j ≤ s.size) : sub s i j ≠ [] := by
  intro e
  have := congrArg List.length e
  unfold sub at this
  rw [List.length_take, List.length_drop] at this
  have h2 : s.data.toList.length = s.size := by simp
  simp only [List.length_nil] at this
  omega
theorem sub_mem (s : ByteArray) (i j : Nat) (hj : j ≤ s.size) : ∀ c ∈ sub s i j, ∃ k, ∃ hk : k < s.size, i ≤ k ∧ k < j ∧ c = s[k]'hk := by
  intro c hc
  unfold sub at hc
  obtain ⟨n, hn, rfl⟩ := List.mem_iff_getElem.1 hc
  rw [List.length_take, List.length_drop] at hn
  have h2 : s.data.toList.length = s.size := by simp
  refine ⟨i + n, by omega, by omega, by omega, ?_⟩
  rw [List.getElem_take, List.getElem_drop]
  rfl
def curOf (s : ByteArray) (st : Option Nat) (pos : Nat) : List UInt8 := match st with
  | none => []
  | some a => sub s a pos
def Fnd (s : ByteArray) (outs : List ByteArray) (st : Option Nat) (pos : Nat) : Prop :=
  (outs.map fun x => x.data.toList) ++ wgo (s.data.toList.drop pos) (curOf s st pos) = wgo s.data.toList []
theorem fnd_start (s : ByteArray) : Fnd s [] none 0 := by simp [Fnd, curOf]
theorem fnd_end {s : ByteArray} {outs : List ByteArray} {st : Option Nat} (h : Fnd s outs st s.size) : (outs.map fun x => x.data.toList) ++ (if curOf s st s.size = [] then [] else [curOf s st s.size]) = wgo s.data.toList [] := by
  unfold Fnd at h
  rw [List.drop_of_length_le (by simp)] at h
  exact h
theorem fnd_word {s : ByteArray} {outs : List ByteArray} {st : Option Nat} {pos K : Nat} (h : Fnd s outs st pos) (hn : ∀ c ∈ sub s pos (pos + K), blk c = false) (hst : ∀ a, st = some a → a ≤ pos) :
    Fnd s outs (some (st.getD pos)) (pos + K) := by
  unfold Fnd at h ⊢
  rw [drop_split s pos (pos + K) (by omega), wgo_run _ _ _ hn] at h
  rw [← h]
  congr 2
  unfold curOf
  cases st with
  | none => simp
  | some a => simp only [Option.getD_some]; exact (sub_app s a pos (pos + K) (hst a rfl) (by omega)).symm
theorem fnd_cut {s : ByteArray} {outs : List ByteArray} {a pos : Nat} (h : Fnd s outs (some a) pos) (hp : pos < s.size) (ha : a < pos) (hb : blk (s[pos]'hp) = true) :
    Fnd s (outs ++ [s.extract a pos]) none (pos + 1) := by
  unfold Fnd at h ⊢
  rw [List.drop_eq_getElem_cons (by simpa using hp)] at h
  simp only [wgo] at h
  have hb' : blk (s.data.toList[pos]'(by simpa using hp)) = true := hb
  rw [if_pos hb', if_neg (show ¬ curOf s (some a) pos = [] from sub_ne s a pos ha (by omega))] at h
  rw [← h, List.map_append, List.map_cons, List.map_nil, sub_extract]
  simp [curOf]
theorem fnd_skip {s : ByteArray} {outs : List ByteArray} {pos : Nat} (h : Fnd s outs none pos) (hp : pos < s.size) (hb : blk (s[pos]'hp) = true) :
    Fnd s outs none (pos + 1) := by
  unfold Fnd at h ⊢
  rw [List.drop_eq_getElem_cons (by simpa using hp)] at h
  simp only [wgo] at h
  have hb' : blk (s.data.toList[pos]'(by simpa using hp)) = true := hb
  rw [if_pos hb', if_pos (show curOf s none pos = [] from rfl)] at h
  exact h
def splitF : List UInt8 → List (List UInt8)
  | [] => [[]]
  | c :: l => if c = 10 then [] :: splitF l else match splitF l with
    | [] => [[c]]
    | x :: r => (c :: x) :: r
def trimF (l : List UInt8) : List UInt8 := if l.getLast? = some 10 then l.dropLast else l
def linesL (l : List UInt8) : List (List UInt8) := if l = [] then [] else splitF (trimF l)
theorem splitF_ne (l : List UInt8) : splitF l ≠ [] := by
  cases l with
  | nil => simp [splitF]
  | cons c l => unfold splitF; split <;> (try split) <;> simp
theorem splitF_cases : ∀ (l : List UInt8), (indexByte l 10 = -1 ∧ splitF l = [l]) ∨ ∃ n : Nat, indexByte l 10 = n ∧ splitF l = l.take n :: splitF (l.drop (n + 1))
  | [] => .inl ⟨rfl, rfl⟩
  | c :: l => by
    by_cases hc : c = 10
    · subst hc
      exact .inr ⟨0, by simp [indexByte], by simp [splitF]⟩
    · rcases splitF_cases l with ⟨h1, h2⟩ | ⟨n, h1, h2⟩
      · exact .inl ⟨by simp [indexByte, hc, h1], by simp [splitF, hc, h2]⟩
      · refine .inr ⟨n + 1, ?_, by simp [splitF, hc, h2]⟩
        have h3 : ¬ ((n : Int) = -1) := by omega
        simp [indexByte, hc, h1, h3]
theorem splitK_F : ∀ (k : Nat) (l : List UInt8), count l [10] = k → splitK [10] 0 k l = splitF l
  | 0, l, hk => by
    rcases splitF_cases l with ⟨_, h2⟩ | ⟨n, h1, _⟩
    · rw [h2]; rfl
    · have := count_hit (s := l) (sub := [10]) (i := n) (by simp) (by rw [index_one]; exact h1)
      omega
  | k + 1, l, hk => by
    rcases splitF_cases l with ⟨h1, h2⟩ | ⟨n, h1, h2⟩
    · have := count_miss (s := l) (sub := [10]) (by rw [index_one]; exact h1)
      omega
    · have hc := count_hit (s := l) (sub := [10]) (i := n) (by simp) (by rw [index_one]; exact h1)
      have ih := splitK_F k (l.drop (n + 1)) (by simp only [List.length_singleton] at hc; omega)
      unfold splitK
      rw [index_one, h1, if_neg (by simp), h2]
      simp only [List.length_singleton, Nat.add_zero, Int.toNat_natCast]
      rw [ih]
theorem splitB_F (T : ByteArray) : (splitB ⟨#[10]⟩ 0 (countB T ⟨#[10]⟩) T).map (fun x => x.data.toList) = splitF T.data.toList := by
  rw [splitB_data]
  exact splitK_F _ _ rfl
theorem suffix_ten (m : List UInt8) (c : UInt8) : ([10] : List UInt8).isSuffixOf (m ++ [c]) = true ↔ c = 10 := by
  rw [List.isSuffixOf_iff_suffix]
  constructor
  · rintro ⟨k, hk⟩
    have := congrArg List.getLast? hk
    simp at this
    exact this.symm
  · rintro rfl
    exact ⟨m, rfl⟩
theorem trimF_eq (l : List UInt8) : trimSuffix l [10] = trimF l := by
  unfold trimSuffix trimF hasSuffix
  rcases List.eq_nil_or_concat l with rfl | ⟨m, c, rfl⟩
  · rfl
  · rw [List.concat_eq_append]
    by_cases hc : c = 10
    · rw [if_pos ((suffix_ten m c).2 hc)]; simp [hc]
    · rw [if_neg (fun h => hc ((suffix_ten m c).1 h))]; simp [hc]
end Wrd
namespace WordsA
open Go.RowKit Go.Proofs.YthlhbnaloefncaaGreatDoor.Wrd Go.Proofs.YthlhbnaloefncaaGreatDoor.Pr
theorem info9 : (Tryz.prog.info? 9).map (fun i => (i.zero, i.size, i.bytes)) = some (some (.string ⟨#[]⟩), 1, 16) := by kernel_rfl
theorem blank_calls (r : Nat) (b : Bool) (hr : r ≤ 2147483647) (h : (decide (r = 32) || (decide (r = 9) || decide (r = 13))) = b) (w : World) :
    Calls Tryz.prog 162 #[.int .i32 (r : Int)] w fun e w' => e = .returned (.bool b) ∧ w = w' := by
  go_enter Tryz.func162, Tryz.ntmps162
  by_cases h1 : r = 32
  · subst h1
    go_wp2
    go_ret
    exact ⟨by rw [← h]; rfl, rfl⟩
  · have b1 : ((r : Int) == 32) = false := beq_eq_false_iff_ne.2 (by omega)
    by_cases h2 : r = 9
    · subst h2
      go_wp2
      go_ret
      exact ⟨by rw [← h]; rfl, rfl⟩
    · have b2 : ((r : Int) == 9) = false := beq_eq_false_iff_ne.2 (by omega)
      have e : b = decide (r = 13) := by rw [← h]; simp [h1, h2]
      subst e
      have b3 : ((r : Int) == 13) = decide (r = 13) := by
        by_cases h3 : r = 13
        · subst h3; rfl
        · rw [dcF h3]; exact beq_eq_false_iff_ne.2 (by omega)
      clear h h1 h2
      go_wp2
      go_ret
      exact ⟨rfl, rfl⟩
theorem own_iterAt {w : World} {B e size n : Nat} {v : Value} {xs : List Value} {k : Nat} {s : ByteArray} {pos : Nat} (h : w.ownsRow B e size v n xs) (hk : w.heap[k]? = some (.stringIter s pos)) (pos' : Nat) : (w.iterAt k s pos').ownsRow B e size v n xs := by
  refine ⟨h.1, ?_⟩
  rcases h.2 with h0 | ⟨g, cap, cur, hv, hb, hg, rest⟩
  · exact .inl h0
  · refine .inr ⟨g, cap, cur, hv, hb, ?_, rest⟩
    rw [Lib.iterAt_other _ _ _ _ _ (fun e => by subst e; rw [hk] at hg; cases hg)]
    exact hg
theorem own_ne_iter {w : World} {B e size n : Nat} {v : Value} {xs : List Value} {k : Nat} {s : ByteArray} {pos : Nat} (h : w.ownsRow B e size v n xs) (hk : w.heap[k]? = some (.stringIter s pos)) : some k ≠ v.ownBlock := by
  rcases h.2 with ⟨rfl, _⟩ | ⟨g, cap, cur, rfl, hb, hg, rest⟩
  · simp [Value.ownBlock]
  · intro e
    simp only [Value.ownBlock, Option.some.injEq] at e
    subst e
    rw [hk] at hg
    cases hg
theorem byte_bare : ∀ (l : List UInt8), (Lib.indexByte l 35 = -1 ∧ bare l = l) ∨ ∃ n : Nat, Lib.indexByte l 35 = n ∧ bare l = l.take n
  | [] => .inl ⟨rfl, rfl⟩
  | c :: l => by
    by_cases hc : c = 35
    · subst hc
      exact .inr ⟨0, by simp [Lib.indexByte], by simp [bare]⟩
    · have e : bare (c :: l) = c :: bare l := by simp [bare, hc]
      rcases byte_bare l with ⟨h1, h2⟩ | ⟨n, h1, h2⟩
      · exact .inl ⟨by simp [Lib.indexByte, hc, h1], by rw [e, h2]⟩
      · refine .inr ⟨n + 1, ?_, by rw [e, h2]; rfl⟩
        have h3 : ¬ ((n : Int) = -1) := by omega
        simp [Lib.indexByte, hc, h1, h3]
theorem cut_bare (l : List UInt8) : (Lib.cut l [35]).1 = bare l := by
  unfold Lib.cut
  rw [Lib.index_one]
  rcases byte_bare l with ⟨h1, h2⟩ | ⟨n, h1, h2⟩
  · rw [h1, if_neg (by omega), h2]
  · rw [h1, if_pos (by omega), h2]; rfl
theorem cell_one_new (w : World) (x : Value) (t : TypeId) : ∀ j u, [x][j]? = some u → (w.alloc (.cells #[x] t)).cell? ((⟨w.heap.size, 0, none⟩ : Addr).add j) = some u := by
  intro j u hj
  match j, hj with
  | 0, hj => simp at hj; subst hj; simp [Addr.add]
  | (j + 1), hj => simp at hj
def WordsPost (s : ByteArray) (w : World) (e : Ending) (w' : World) : Prop := ∃ (v : Value) (outs : List ByteArray), e = .returned v ∧ (outs.map fun x => x.data.toList) = wordsL s.data.toList ∧
      w'.ownsRow w.heap.size 9 1 v outs.length (outs.map Value.string) ∧ Below w.heap.size w w'
theorem below_drewN' {B : Nat} {a w : World} (h : Below B a w) (q : Nat) : Below B a (w.drewN q) := ⟨h.os, h.tape, h.output, h.size, h.block⟩
theorem Cut_calls (s : ByteArray) (w : World) (hs : s.size < 4294967281) (hm : MaxP w) :
    Calls Tryz.prog 161 #[.string s, .string (⟨#[35]⟩ : ByteArray)] w fun e w' => ∃ (t x : ByteArray) (b : Bool) (q : Nat), e = .returned (.tuple #[.string t, .string x, .bool b]) ∧ t.data.toList = bare s.data.toList ∧ w' = w.drewN q := by
  obtain ⟨m, hm⟩ := hm
  refine (Tryz.strings_Cut s ⟨#[35]⟩ m w hs hm).mono ?_
  rintro e w' ⟨rfl, q, rfl⟩
  exact ⟨_, _, _, q, rfl, by rw [← cut_bare], rfl⟩
set_option maxHeartbeats 4000000 in
set_option maxRecDepth 100000 in
theorem Words_calls (s : ByteArray) (w : World) (hs : s.size < 4294967281) (hm : MaxP w) :
    Calls Tryz.prog 105 #[.string s] w (WordsPost s w) := by
  obtain ⟨i0, hi, hz0, hz1, hz2⟩ := info_parts info9
  go_enter Tryz.func105, Tryz.ntmps105
  go_wp2_with (go_at_call 161; refine (Cut_calls _ _ hs hm).mono ?_; rintro e w' ⟨t, x, b, q0, rfl, ht, rfl⟩)
  have HT : Hid (wgo t.data.toList [] = wordsL s.data.toList) := Lib.hid (by rw [ht]; rfl)
  have hts : t.size ≤ s.size := by
    have h1 := congrArg List.length ht
    have h2 : (bare s.data.toList).length ≤ s.data.toList.length := (List.takeWhile_sublist _).length_le
    simp at h1 h2
    omega
  clear ht
  go_loopg [2, 3] t.size (fun gf v2 v3 wx => ∃ (pos : Nat) (st : Option Nat) (outs : List ByteArray) (z : Int), v3 = .int .i64 z ∧ (st = none → z < 0) ∧ (∀ a, st = some a → z = (a : Int)) ∧ -9223372036854775808 ≤ z ∧
      wx.ownsRow w.heap.size 9 1 v2 outs.length (outs.map Value.string) ∧ wx.heap[w.heap.size]? = some (.stringIter t pos) ∧ Below w.heap.size w wx ∧ Fnd t outs st pos ∧ pos ≤ t.size ∧ t.size = pos + gf ∧ outs.length ≤ pos ∧ (∀ a, st = some a → a < pos))
  case atStart => exact ⟨0, none, [], -1, rfl, fun _ => by omega, (fun a h => by cases h), by omega, ⟨rfl, .inl ⟨rfl, rfl⟩⟩, World.iter_heap (w.drewN q0) t 0, (below_drewN' (Below.refl _ w) q0).alloc (Nat.le_refl _) _, fnd_start t, Nat.zero_le _, by omega, Nat.le_refl _, (fun a h => by cases h)⟩
  case round =>
    obtain ⟨pos, st, outs, z, rfl, hzn, hzs, hzl, hown, hit, hbw, hF, hps, hfu, hal, hst⟩ := hrel
    by_cases hlt : pos < t.size
    · obtain ⟨R, hR⟩ : ∃ R, (Utf8.decode t pos).1 = R := ⟨_, rfl⟩
      obtain ⟨K, hK⟩ : ∃ K, (Utf8.decode t pos).2 = K := ⟨_, rfl⟩
      have hRle : R ≤ 2147483647 := hR ▸ decode_le t pos
      have hnx : ∀ ty, (Instr.next (.pointer (some ⟨w.heap.size, 0, none⟩)) true ty).run Tryz.prog wr = _ := fun ty => Lib.run_next_any_at wr w.heap.size t pos ty hit hlt
      rw [hR, hK] at hnx
      have hK1 : 1 ≤ K := hK ▸ Lib.width_pos t pos
      have hit2 := Lib.iterAt_heap wr w.heap.size t pos (pos + K) hit
      have hbw2 := Lib.below_iterAt hbw (k := w.heap.size) (Nat.le_refl _) t (pos + K)
      have hown2 := own_iterAt hown hit (pos + K)
      have hkind : (pos + K ≤ t.size ∧ (decide (R = 32) || (decide (R = 9) || decide (R = 13))) = false ∧ ∀ c ∈ sub t pos (pos + K), blk c = false) ∨ (K = 1 ∧ (decide (R = 32) || (decide (R = 9) || decide (R = 13))) = true ∧ blk (t[pos]'hlt) = true) := by
        by_cases ha : (t[pos]'hlt).toNat < 128
        · have hd := decode_ascii t pos hlt ha
          rw [hd] at hR hK
          have hR' : R = (t[pos]'hlt).toNat := hR.symm
          have hK' : K = 1 := hK.symm
          subst hK'
          cases hb : blk (t[pos]'hlt) with
          | true =>
            refine .inr ⟨rfl, ?_, rfl⟩
            rw [hR']
            unfold blk at hb
            simp only [Bool.or_eq_true, beq_iff_eq] at hb
            rcases hb with (hb | hb) | hb <;> rw [hb] <;> rfl
          | false =>
            refine .inl ⟨by omega, ?_, fun c hc => ?_⟩
            · unfold blk at hb
              simp only [Bool.or_eq_false_iff, beq_eq_false_iff_ne] at hb
              have n1 : R ≠ 32 := fun e => hb.1.1 (UInt8.toNat_inj.1 (by rw [← hR', e]; rfl))
              have n2 : R ≠ 9 := fun e => hb.1.2 (UInt8.toNat_inj.1 (by rw [← hR', e]; rfl))
              have n3 : R ≠ 13 := fun e => hb.2 (UInt8.toNat_inj.1 (by rw [← hR', e]; rfl))
              simp [n1, n2, n3]
            · obtain ⟨k, hk, h1, h2, rfl⟩ := sub_mem t pos (pos + 1) (by omega) c hc
              obtain rfl : k = pos := by omega
              exact hb
        · have hw := wide t pos hlt (by omega)
          have h128 := (decode_high t pos hlt (by omega)).1
          rw [hK] at hw
          rw [hR] at h128
          refine .inl ⟨hw.1, by simp; omega, fun c hc => ?_⟩
          obtain ⟨k, hk, h1, h2, rfl⟩ := sub_mem t pos (pos + K) hw.1 c hc
          exact blk_high (hw.2 k hk h1 h2)
      obtain ⟨W, hWd⟩ : ∃ W, wr.iterAt w.heap.size t (pos + K) = W := ⟨_, rfl⟩
      rw [hWd] at hnx hit2 hbw2 hown2
      clear hown hit hbw hWd hR hK
      rcases hkind with ⟨hKs, hbl, hnb⟩ | ⟨rfl, hbl, hbk⟩
      · have cS := blank_calls R false hRle hbl
        clear hbl
        have hF2 := Lib.hid (fnd_word hF hnb (fun a h => by have := hst a h; omega))
        obtain ⟨g', rfl⟩ : ∃ g', gk = g' + K := ⟨gk - K, by omega⟩
        cases st with
        | none =>
          have hz0' : z < 0 := hzn rfl
          have hzd : decide (z < 0) = true := dcT hz0'
          clear hF hnb
          go_wp2_with (go_at_call 162; refine (cS _).mono ?_; rintro e w' ⟨rfl, rfl⟩)
          go_roundg g'
          case measure => omega
          case rel => exact ⟨pos + K, some pos, outs, pos, rfl, (fun h => by cases h), fun a h => by cases h; rfl, by omega, hown2, hit2, hbw2, hF2.out, hKs, by omega, by omega, fun a h => by cases h; omega⟩
        | some a =>
          have hza : z = (a : Int) := hzs a rfl
          subst hza
          clear hF hnb
          go_wp2_with (go_at_call 162; refine (cS _).mono ?_; rintro e w' ⟨rfl, rfl⟩)
          go_roundg g'
          case measure => omega
          case rel => exact ⟨pos + K, some a, outs, a, rfl, (fun h => by cases h), fun b h => by cases h; rfl, by omega, hown2, hit2, hbw2, hF2.out, hKs, by omega, by omega, fun b h => by cases h; have := hst a rfl; omega⟩
      · have cS := blank_calls R true hRle hbl
        clear hbl
        obtain ⟨g', rfl⟩ : ∃ g', gk = g' + 1 := ⟨gk - 1, by omega⟩
        cases st with
        | none =>
          have hz0' : z < 0 := hzn rfl
          have hF2 := Lib.hid (fnd_skip hF hlt hbk)
          clear hF hbk
          go_wp2_with (go_at_call 162; refine (cS _).mono ?_; rintro e w' ⟨rfl, rfl⟩)
          go_roundg g'
          case measure => omega
          case rel => exact ⟨pos + 1, none, outs, z, rfl, fun _ => hz0', (fun a h => by cases h), hzl, hown2, hit2, hbw2, hF2.out, by omega, by omega, by omega, (fun a h => by cases h)⟩
        | some a =>
          have hza : z = (a : Int) := hzs a rfl
          subst hza
          have hap := hst a rfl
          have hF2 := Lib.hid (fnd_cut hF hlt hap hbk)
          clear hF hbk
          have hsl : ∀ W : World, (Instr.slice 9 (.string t) (some (.int .i64 (a : Int))) (some (.int .i64 (pos : Int))) none).run Tryz.prog W = .ok (.string (t.extract a pos)) W := fun W => by
            have := run_slice_string (P := Tryz.prog) W 9 t .i64 .i64 a pos Tryz.underlying9 (by omega) (by omega) (by omega)
            simpa using this
          go_wp2_with (first
            | (go_at_call 162; refine (cS _).mono ?_; rintro e w' ⟨rfl, rfl⟩)
            | (at_builtin; go_must (refine wpList_append_own _ rfl (.tmp 34) (.tmp 39) 98 rfl w.heap.size 9 i0 (.string ⟨#[]⟩) 1 16 Tryz.underlying98 hi hz0 hz1 hz2 rfl (by decide) _ _ _ rfl (hown2.alloc _) ⟨W.heap.size, 0, none⟩ 1 1 [.string (t.extract a pos)] rfl rfl (cell_one_new _ _ _) (by intro u hu; simp at hu; subst hu; rfl) (by unfold maxLen; omega) (by omega) (by have := hbw2.size; simp; omega) ?_; intro v3 w3 hown3 hgrow3 hnil3)))
          go_roundg g'
          case measure => omega
          case rel =>
            have hIT : w.heap.size < W.heap.size := (Array.getElem?_eq_some_iff.1 hit2).1
            have hX := hown2.alloc (.cells #[.string (t.extract a pos)] 9)
            refine ⟨pos + 1, none, outs ++ [t.extract a pos], -1, rfl, fun _ => by omega, (fun b h => by cases h), by omega, by rw [List.length_append, List.map_append]; exact hown3, ?_, ?_, hF2.out, by omega, by omega, by simp; omega, (fun b h => by cases h)⟩
            · exact (hgrow3.block w.heap.size (by simp; omega) (own_ne_iter hown2 hit2)).trans ((Below.heap_alloc _ _ _ hIT).trans hit2)
            · exact (hbw2.alloc (by have := hbw2.size; exact this) _).grown hgrow3 (by have := hbw2.size; simp; omega) (fun j hj => (hX.lt j hj).1)
    · obtain rfl : pos = t.size := by omega
      have hnx : ∀ ty, (Instr.next (.pointer (some ⟨w.heap.size, 0, none⟩)) true ty).run Tryz.prog wr = _ := fun ty => Lib.run_next_end_at wr w.heap.size t t.size ty hit hlt
      have hend := fnd_end hF
      rw [HT.out] at hend
      clear hfu hps
      cases st with
      | none =>
        have hz0' : z < 0 := hzn rfl
        have HE := Lib.hid hend
        clear hend hF
        go_wp2
        go_ret
        exact ⟨_, outs, rfl, by rw [← HE.out]; simp [curOf], hown, hbw⟩
      | some a =>
        have hza : z = (a : Int) := hzs a rfl
        subst hza
        have hap := hst a rfl
        have HE := Lib.hid hend
        clear hend hF
        have hsl : ∀ W : World, (Instr.slice 9 (.string t) (some (.int .i64 (a : Int))) none none).run Tryz.prog W = .ok (.string (t.extract a t.size)) W := fun W => by
          have := run_slice_string_from_if (P := Tryz.prog) W 9 t .i64 a Tryz.underlying9
          rw [this, if_pos ⟨by omega, by omega⟩]
          simp
        go_wp2_with (at_builtin; go_must (refine wpList_append_own _ rfl (.tmp 43) (.tmp 47) 98 rfl w.heap.size 9 i0 (.string ⟨#[]⟩) 1 16 Tryz.underlying98 hi hz0 hz1 hz2 rfl (by decide) _ _ _ rfl (hown.alloc _) ⟨wr.heap.size, 0, none⟩ 1 1 [.string (t.extract a t.size)] rfl rfl (cell_one_new _ _ _) (by intro u hu; simp at hu; subst hu; rfl) (by unfold maxLen; omega) (by omega) (by have := hbw.size; simp; omega) ?_; intro v3 w3 hown3 hgrow3 hnil3))
        go_ret
        have hX := hown.alloc (.cells #[.string (t.extract a t.size)] 9)
        refine ⟨_, outs ++ [t.extract a t.size], rfl, ?_, by rw [List.length_append, List.map_append]; exact hown3, ?_⟩
        · rw [← HE.out, List.map_append, List.map_cons, List.map_nil, sub_extract]
          rw [if_neg (show ¬ curOf t (some a) t.size = [] from sub_ne t a t.size hap (Nat.le_refl _))]
          rfl
        · exact (hbw.alloc (by have := hbw.size; exact this) _).grown hgrow3 (by have := hbw.size; simp; omega) (fun j hj => (hX.lt j hj).1)
end WordsA
namespace Dig
open Go.Lib
def pgo : List UInt8 → Bool → Int → Option Int
  | [], _, n => some n
  | c :: l, first, n => if (c.toNat : Int) < 48 then none else if 57 < (c.toNat : Int) then none else if first = false ∧ n = 0 then none else
      if (9223372036854775807 - ((c.toNat : Int) - 48)) / 10 < n then none else pgo l false (n * 10 + ((c.toNat : Int) - 48))
def parseI (l : List UInt8) (high : Int) : Int × Bool :=
  match pgo l true 0 with
  | none => (0, false)
  | some n => if l = [] then (0, false) else if high < n then (0, false) else (n, true)
def stepI (c : UInt8) (first : Bool) (n : Int) : Option Int :=
  if (c.toNat : Int) < 48 then none else if 57 < (c.toNat : Int) then none else if first = false ∧ n = 0 then none else
      if (9223372036854775807 - ((c.toNat : Int) - 48)) / 10 < n then none else some (n * 10 + ((c.toNat : Int) - 48))
theorem pgo_cons (c : UInt8) (l : List UInt8) (b : Bool) (n : Int) : pgo (c :: l) b n = (stepI c b n).bind (pgo l false) := by
  simp only [pgo, stepI]
  repeat' split
  all_goals rfl
theorem pgo_snoc (c : UInt8) : ∀ (l : List UInt8) (b : Bool) (n : Int), pgo (l ++ [c]) b n = (pgo l b n).bind (stepI c (b && l.isEmpty))
  | [], b, n => by
    rw [List.nil_append, pgo_cons, pgo]
    simp only [List.isEmpty_nil, Bool.and_true, Option.bind_some]
    cases stepI c b n <;> simp [pgo]
  | x :: l, b, n => by
    rw [List.cons_append, pgo_cons, pgo_cons]
    cases h : stepI x b n with
    | none => rfl
    | some m => simp only [Option.bind_some]; rw [pgo_snoc c l false m]; simp
theorem dec_small {u : Nat} (h : u < 10) : decDigits u = [UInt8.ofNat (48 + u)] := by rw [decDigits, dif_pos h]
theorem dec_big {u : Nat} (h : ¬ u < 10) : decDigits u = decDigits (u / 10) ++ [UInt8.ofNat (48 + u % 10)] := by rw [decDigits, dif_neg h]
theorem dec_ne (u : Nat) : decDigits u ≠ [] := by
  by_cases h : u < 10
  · rw [dec_small h]; simp
  · rw [dec_big h]; simp
theorem byte_toNat {d : Nat} (h : d < 10) : (UInt8.ofNat (48 + d)).toNat = 48 + d := by
  simp only [UInt8.toNat_ofNat']
  omega
theorem byte_of {c : UInt8} (h1 : 48 ≤ c.toNat) (h2 : c.toNat ≤ 57) : c = UInt8.ofNat (48 + (c.toNat - 48)) := by
  rw [show 48 + (c.toNat - 48) = c.toNat by omega, UInt8.ofNat_toNat]
theorem pgo_dec (u : Nat) (h : (u : Int) ≤ 9223372036854775807) : pgo (decDigits u) true 0 = some (u : Int) := by
  induction u using Nat.strongRecOn with
  | _ u ih =>
    by_cases hs : u < 10
    · rw [dec_small hs, pgo_cons]
      have e := byte_toNat hs
      unfold stepI
      rw [e, if_neg (by omega), if_neg (by omega), if_neg (by simp), if_neg (by omega)]
      simp [pgo]
      omega
    · rw [dec_big hs, pgo_snoc, ih (u / 10) (by omega) (by omega)]
      have e := byte_toNat (show u % 10 < 10 by omega)
      have hn : (decDigits (u / 10)).isEmpty = false := by simpa using dec_ne (u / 10)
      simp only [Option.bind_some, hn, Bool.and_false]
      unfold stepI
      rw [e, if_neg (by omega), if_neg (by omega), if_neg (by omega), if_neg (by omega)]
      congr 1
      omega
theorem stepI_some {c : UInt8} {b : Bool} {n m : Int} (h : stepI c b n = some m) :
    48 ≤ c.toNat ∧ c.toNat ≤ 57 ∧ (b = false → n ≠ 0) ∧ n ≤ (9223372036854775807 - ((c.toNat : Int) - 48)) / 10 ∧ m = n * 10 + ((c.toNat : Int) - 48) := by
  unfold stepI at h
  split at h <;> try contradiction
  split at h <;> try contradiction
  split at h <;> try contradiction
  split at h <;> try contradiction
  rename_i h1 h2 h3 h4
  have h := Option.some.inj h
  exact ⟨by omega, by omega, fun hb hn => h3 ⟨hb, hn⟩, by omega, h.symm⟩
theorem list_snoc {α : Type} (l : List α) (h : l ≠ []) : ∃ l' c, l = l' ++ [c] := ⟨l.dropLast, l.getLast h, (List.dropLast_concat_getLast h).symm⟩
theorem dec_of_pgo : ∀ (k : Nat) (l : List UInt8) (m : Int), l.length = k → l ≠ [] → pgo l true 0 = some m → 0 ≤ m ∧ m ≤ 9223372036854775807 ∧ decDigits m.toNat = l := by
  intro k
  induction k with
  | zero => intro l m hl hn _; exact absurd (List.length_eq_zero_iff.1 hl) hn
  | succ k ih =>
    intro l m hl hn hp
    obtain ⟨l', c, rfl⟩ := list_snoc l hn
    rw [pgo_snoc] at hp
    by_cases he : l' = []
    · subst he
      simp only [pgo, Option.bind_some, List.isEmpty_nil, Bool.and_true] at hp
      obtain ⟨h1, h2, _, _, rfl⟩ := stepI_some hp
      refine ⟨by omega, by omega, ?_⟩
      rw [show (0 * 10 + ((c.toNat : Int) - 48)).toNat = c.toNat - 48 by omega, dec_small (by omega), ← byte_of h1 h2]
      rfl
    · cases hq : pgo l' true 0 with
      | none => rw [hq] at hp; simp at hp
      | some q =>
        rw [hq] at hp
        have hne : l'.isEmpty = false := by simpa using he
        simp only [Option.bind_some, hne, Bool.and_false] at hp
        obtain ⟨h1, h2, h3, h4, rfl⟩ := stepI_some hp
        have hl' : l'.length = k := by simpa using hl
        obtain ⟨q0, q1, qe⟩ := ih l' q hl' he hq
        have hq0 : q ≠ 0 := h3 rfl
        refine ⟨by omega, by omega, ?_⟩
        have hbig : ¬ (q * 10 + ((c.toNat : Int) - 48)).toNat < 10 := by omega
        rw [dec_big hbig, show (q * 10 + ((c.toNat : Int) - 48)).toNat / 10 = q.toNat by omega, qe,
          show 48 + (q * 10 + ((c.toNat : Int) - 48)).toNat % 10 = 48 + (c.toNat - 48) by omega, ← byte_of h1 h2]
theorem parse_true {l : List UInt8} {high n : Int} (h : parseI l high = (n, true)) : 0 ≤ n ∧ n ≤ high ∧ n ≤ 9223372036854775807 ∧ itoa n = l := by
  unfold parseI at h
  cases hp : pgo l true 0 with
  | none => rw [hp] at h; simp at h
  | some m =>
    rw [hp] at h
    simp only at h
    split at h
    · simp at h
    · rename_i hl
      split at h
      · simp at h
      · rename_i hh
        have hm : m = n := (Prod.mk.inj h).1
        subst hm
        obtain ⟨h0, h1, h2⟩ := dec_of_pgo _ l m rfl hl hp
        exact ⟨h0, by omega, h1, by unfold itoa; rw [if_neg (by omega)]; exact h2⟩
theorem parse_of {n high : Int} (h0 : 0 ≤ n) (h1 : n ≤ high) (h2 : n ≤ 9223372036854775807) : parseI (itoa n) high = (n, true) := by
  have e : itoa n = decDigits n.toNat := by unfold itoa; rw [if_neg (by omega)]
  have hp := pgo_dec n.toNat (by omega)
  unfold parseI
  rw [e, hp]
  simp only
  rw [if_neg (dec_ne _), if_neg (by omega), show ((n.toNat : Nat) : Int) = n by omega]
theorem parse_false {l : List UInt8} {high n : Int} (h : parseI l high = (n, false)) : n = 0 := by
  unfold parseI at h
  split at h
  · exact (Prod.mk.inj h).1.symm
  · split at h
    · exact (Prod.mk.inj h).1.symm
    · split at h
      · exact (Prod.mk.inj h).1.symm
      · simp at h
theorem dec_len (u : Nat) (k : Nat) (h : u < 10 ^ (k + 1)) : (decDigits u).length ≤ k + 1 := by
  induction k generalizing u with
  | zero => rw [dec_small (by simpa using h)]; simp
  | succ k ih =>
    by_cases hs : u < 10
    · rw [dec_small hs]; simp
    · rw [dec_big hs, List.length_append, List.length_singleton]
      have := ih (u / 10) (by rw [Nat.pow_succ] at h; omega)
      omega
end Dig
namespace Num
open Go.RowKit Go.Proofs.YthlhbnaloefncaaGreatDoor.Dig
theorem drop_cons (s : ByteArray) (pos : Nat) (h : pos < s.size) : s.data.toList.drop pos = (s[pos]'h) :: s.data.toList.drop (pos + 1) := by
  rw [List.drop_eq_getElem_cons (by simpa using h)]; rfl
theorem ret2 {k : IntKind} {a b : Int} {p q : Bool} (h : a = b) (g : p = q) : Ending.returned (.tuple #[.int k a, .bool p]) = .returned (.tuple #[.int k b, .bool q]) := by rw [h, g]
set_option maxHeartbeats 2000000 in
set_option maxRecDepth 100000 in
theorem Parse_calls (s : ByteArray) (high : Int) (w : World) (hs : s.size ≤ 9223372036854775807) :
    Calls Tryz.prog 108 #[.string s, .int .i64 high] w fun e w' => e = .returned (.tuple #[.int .i64 (parseI s.data.toList high).1, .bool (parseI s.data.toList high).2]) ∧ Below w.heap.size w w' := by
  go_enter Tryz.func108, Tryz.ntmps108
  go_wp2
  go_loopg [4] s.size (fun gf v4 wx => ∃ (pos : Nat) (n : Int), v4 = .int .i64 n ∧ wx.heap[w.heap.size]? = some (.stringIter s pos) ∧ Below w.heap.size w wx ∧ 0 ≤ n ∧ n ≤ 9223372036854775807 ∧ pgo (s.data.toList.drop pos) (decide (pos = 0)) n = pgo s.data.toList true 0 ∧ pos ≤ s.size ∧ s.size = pos + gf)
  case atStart => exact ⟨0, 0, rfl, World.iter_heap w s 0, (Below.refl _ w).alloc (Nat.le_refl _) _, by omega, by omega, rfl, by omega, by omega⟩
  case round =>
    obtain ⟨pos, n, rfl, hit, hbw, hn0, hn1, hleft, hle, hfu⟩ := hrel
    by_cases hps : pos < s.size
    · obtain ⟨g', rfl⟩ : ∃ g', gk = g' + 1 := ⟨gk - 1, by omega⟩
      have hnx : ∀ ty, (Instr.next (.pointer (some ⟨w.heap.size, 0, none⟩)) true ty).run Tryz.prog wr = _ := fun ty => Lib.run_next_any_at wr w.heap.size s pos ty hit hps
      obtain ⟨R, hR⟩ : ∃ R, (Utf8.decode s pos).1 = R := ⟨_, rfl⟩
      obtain ⟨K, hK⟩ : ∃ K, (Utf8.decode s pos).2 = K := ⟨_, rfl⟩
      have hRle : R ≤ 2147483647 := hR ▸ decode_le s pos
      rw [drop_cons s pos hps] at hleft
      simp only [pgo] at hleft
      have hit2 := Lib.iterAt_heap wr w.heap.size s pos (pos + K) hit
      have hbw2 := Lib.below_iterAt hbw (k := w.heap.size) (Nat.le_refl _) s (pos + K)
      rw [hR, hK] at hnx
      obtain ⟨W, hWd⟩ : ∃ W, wr.iterAt w.heap.size s (pos + K) = W := ⟨_, rfl⟩
      rw [hWd] at hnx hit2 hbw2
      have hcR : ((s[pos]'hps).toNat : Int) = R ∧ K = 1 ∨ 128 ≤ ((s[pos]'hps).toNat : Int) ∧ 128 ≤ R := by
        by_cases ha : (s[pos]'hps).toNat < 128
        · rw [decode_ascii s pos hps ha] at hR hK; exact .inl ⟨by rw [← hR], hK.symm⟩
        · exact .inr ⟨by omega, by rw [← hR]; exact (decode_high s pos hps (by omega)).1⟩
      obtain ⟨C, hC⟩ : ∃ C : Int, ((s[pos]'hps).toNat : Int) = C := ⟨_, rfl⟩
      rw [hC] at hcR hleft
      clear hC hR hK hWd hit
      by_cases c1 : (R : Int) < 48
      · have HP : Hid (parseI s.data.toList high = (0, false)) := Lib.hid (by unfold parseI; rw [← hleft, if_pos (by omega)])
        have b1 : decide ((R : Int) < 48) = true := dcT c1
        clear hleft hcR
        go_wp2
        go_ret2
        exact ⟨ret2 (by rw [HP.out]) (by rw [HP.out]), hbw2⟩
      · have b1 : decide ((R : Int) < 48) = false := dcF c1
        by_cases c2 : 57 < (R : Int)
        · have HP : Hid (parseI s.data.toList high = (0, false)) := Lib.hid (by unfold parseI; rw [← hleft, if_neg (by omega), if_pos (by omega)])
          have b2 : decide (57 < (R : Int)) = true := dcT c2
          clear hleft hcR
          go_wp2
          go_ret2
          exact ⟨ret2 (by rw [HP.out]) (by rw [HP.out]), hbw2⟩
        · have b2 : decide (57 < (R : Int)) = false := dcF c2
          obtain ⟨rfl, rfl⟩ : (C = R ∧ K = 1) := by omega
          rw [if_neg c1, if_neg c2] at hleft
          by_cases c3 : pos = 0
          · simp only [c3, decide_true, Bool.true_eq_false, false_and, if_false] at hleft
            rw [show s.data.toList.drop (0 + 1) = s.data.toList.drop (pos + 1) by rw [c3]] at hleft
            have c3' : decide (0 < pos) = false := by simp [c3]
            have c3i : decide ((0 : Int) < (pos : Int)) = false := by simp [c3]
            have H3 := Lib.hid c3
            clear c3
            by_cases c4 : (9223372036854775807 - ((R : Int) - 48)) / 10 < n
            · have HP : Hid (parseI s.data.toList high = (0, false)) := Lib.hid (by unfold parseI; rw [← hleft, if_pos c4])
              have b4 : decide ((9223372036854775807 - ((R : Int) - 48)) / 10 < n) = true := dcT c4
              clear hleft
              go_wp2
              go_ret2
              exact ⟨ret2 (by rw [HP.out]) (by rw [HP.out]), hbw2⟩
            · have b4 : decide ((9223372036854775807 - ((R : Int) - 48)) / 10 < n) = false := dcF c4
              rw [if_neg c4] at hleft
              have HL := Lib.hid hleft
              clear hleft
              go_wp2
              go_roundg g'
              case measure => omega
              case rel => exact ⟨pos + 1, _, rfl, hit2, hbw2, by omega, by omega, by rw [← HL.out]; simp, by omega, by omega⟩
          · have c3' : decide (0 < pos) = true := by simp; omega
            have c3i : decide ((0 : Int) < (pos : Int)) = true := by simp; omega
            have e3 : decide (pos = 0) = false := by simp [c3]
            rw [e3] at hleft
            clear e3
            by_cases c5 : n = 0
            · have HP : Hid (parseI s.data.toList high = (0, false)) := Lib.hid (by unfold parseI; rw [← hleft, if_pos ⟨rfl, c5⟩])
              have b5 : (n == 0) = true := beq_iff_eq.2 c5
              clear hleft c5 
              go_wp2
              go_ret2
              exact ⟨ret2 (by rw [HP.out]) (by rw [HP.out]), hbw2⟩
            · rw [if_neg (by rintro ⟨_, h⟩; exact c5 h)] at hleft
              have b5 : (n == 0) = false := beq_eq_false_iff_ne.2 c5
              by_cases c4 : (9223372036854775807 - ((R : Int) - 48)) / 10 < n
              · have HP : Hid (parseI s.data.toList high = (0, false)) := Lib.hid (by unfold parseI; rw [← hleft, if_pos c4])
                have b4 : decide ((9223372036854775807 - ((R : Int) - 48)) / 10 < n) = true := dcT c4
                clear hleft
                go_wp2
                go_ret2
                exact ⟨ret2 (by rw [HP.out]) (by rw [HP.out]), hbw2⟩
              · have b4 : decide ((9223372036854775807 - ((R : Int) - 48)) / 10 < n) = false := dcF c4
                rw [if_neg c4] at hleft
                have HL := Lib.hid hleft
                clear hleft
                go_wp2
                go_roundg g'
                case measure => omega
                case rel => exact ⟨pos + 1, _, rfl, hit2, hbw2, by omega, by omega, by rw [← HL.out]; simp, by omega, by omega⟩
    · have hnx : ∀ ty, (Instr.next (.pointer (some ⟨w.heap.size, 0, none⟩)) true ty).run Tryz.prog wr = _ := fun ty => Lib.run_next_end_at wr w.heap.size s pos ty hit hps
      obtain rfl : pos = s.size := by omega
      rw [List.drop_of_length_le (by simp)] at hleft
      simp only [pgo] at hleft
      by_cases ce : s.size = 0
      · have ce1 : s.data.toList = [] := by rw [← List.length_eq_zero_iff]; simpa using ce
        have HP : Hid (parseI s.data.toList high = (0, false)) := Lib.hid (by unfold parseI; rw [← hleft]; simp [ce1])
        have he : s.toList = [] := (ByteArray.toList_eq s).trans ce1
        clear hleft ce ce1
        go_wp2
        go_ret2
        exact ⟨ret2 (by rw [HP.out]) (by rw [HP.out]), hbw⟩
      · have ce1 : s.data.toList ≠ [] := by rw [ne_eq, ← List.length_eq_zero_iff]; simpa using ce
        have he : s.toList.isEmpty = false := by rw [ByteArray.toList_eq]; simpa using ce1
        have he' : ¬ s.toList = [] := by rw [ByteArray.toList_eq]; exact ce1
        by_cases ch : high < n
        · have HP : Hid (parseI s.data.toList high = (0, false)) := Lib.hid (by unfold parseI; rw [← hleft]; simp [ce1, ch])
          have b6 : decide (high < n) = true := dcT ch
          clear hleft ce ce1
          go_wp2
          go_ret2
          exact ⟨ret2 (by rw [HP.out]) (by rw [HP.out]), hbw⟩
        · have HP : Hid (parseI s.data.toList high = (n, true)) := Lib.hid (by unfold parseI; rw [← hleft]; simp [ce1, ch])
          have b6 : decide (high < n) = false := dcF ch
          clear hleft ce ce1
          go_wp2
          go_ret2
          exact ⟨ret2 (by rw [HP.out]) (by rw [HP.out]), hbw⟩
end Num
namespace Ex
open Go Go.RowKit Go.Proofs.YthlhbnaloefncaaGreatDoor.Wrd Go.Proofs.YthlhbnaloefncaaGreatDoor.Dig Go.Lib
theorem cond_none {α : Type} {b : Bool} {x : Option α} {r : α} (h : (bif b then x else none) = some r) : b = true ∧ x = some r := by cases b <;> simp_all
def ofL (l : List UInt8) : ByteArray := ⟨l.toArray⟩
theorem ofL_data (x : ByteArray) : ofL x.data.toList = x := by cases x; simp [ofL]
theorem data_ofL (l : List UInt8) : (ofL l).data.toList = l := by simp [ofL]
def decK : Nat → Nat → List UInt8
  | 0, _ => []
  | k + 1, u => bif Nat.blt u 10 then [UInt8.ofNat (48 + u)] else decK k (u / 10) ++ [UInt8.ofNat (48 + u % 10)]
theorem decK_eq : ∀ (k u : Nat), u < 10 ^ (k + 1) → decK (k + 1) u = decDigits u
  | k, u, h => by
    rw [decDigits]
    unfold decK
    by_cases hu : u < 10
    · rw [dif_pos hu, show Nat.blt u 10 = true from Nat.ble_eq_true_of_le hu]; rfl
    · have hb : Nat.blt u 10 = false := by
        cases hq : Nat.blt u 10 with
        | false => rfl
        | true => exact absurd (Nat.le_of_ble_eq_true hq) hu
      rw [dif_neg hu, hb]
      simp only [cond_false]
      cases k with
      | zero => exact absurd h (by simpa using hu)
      | succ k =>
        rw [decK_eq k (u / 10) (by rw [Nat.pow_succ] at h; omega)]
def itoaK (n : Int) : List UInt8 := bif decide (n < 0) then 45 :: decK 20 n.natAbs else decK 20 n.toNat
theorem itoaK_eq {n : Int} (h0 : -9223372036854775808 ≤ n) (h1 : n ≤ 9223372036854775807) : itoaK n = itoa n := by
  unfold itoaK itoa
  by_cases h : n < 0
  · rw [dcT h, if_pos h, ← decK_eq 19 _ (by omega)]; rfl
  · rw [dcF h, if_neg h, ← decK_eq 19 _ (by omega)]; rfl
def words_Words (_k : Nat) (s : ByteArray) : Option (List ByteArray) := bif decide (s.size < 4294967281) then some ((wordsL s.data.toList).map ofL) else none
def words_Lines (_k : Nat) (s : ByteArray) : Option (List ByteArray) := bif decide (s.size < 4294967281) then some ((linesL s.data.toList).map ofL) else none
def num_Parse (_k : Nat) (x : ByteArray × Int) : Option (Int × Bool) := bif decide (x.1.size ≤ 9223372036854775807) then some (parseI x.1.data.toList x.2) else none
theorem words_Words_ok (k : Nat) : CallsOk Tryz.prog 105 [.one (.sc .str)] [.one (.row 9 [.str])] (words_Words k) := ok_str_strs fun a r w hg h => by
  unfold words_Words at h
  rcases cond_some h with ⟨h1, h2⟩ | ⟨_, h2⟩
  · obtain rfl := Option.some.inj h2
    refine (WordsA.Words_calls a w (of_decide_eq_true h1) hg).mono ?_
    rintro e w' ⟨v, outs, rfl, ho, hown, hb⟩
    have e : (wordsL a.data.toList).map ofL = outs := by
      rw [← ho, List.map_map]
      have : (ofL ∘ fun x : ByteArray => x.data.toList) = id := funext fun x => ofL_data x
      rw [this, List.map_id]
    rw [e]
    exact ⟨v, rfl, hown, hb⟩
  · cases h2
theorem split_ofL (T : ByteArray) : Lib.splitB ⟨#[10]⟩ 0 (Lib.countB T ⟨#[10]⟩) T = (splitF T.data.toList).map ofL := by
  rw [← splitB_F, List.map_map]
  have : (ofL ∘ fun x : ByteArray => x.data.toList) = id := funext fun x => ofL_data x
  rw [this, List.map_id]
theorem own_made {w : World} {L : List Value} {n : Nat} (h : L.length = n) (hn : n ≤ maxLen) (T : TypeId) : (w.alloc (.cells L.toArray T)).ownsRow w.heap.size T 1 (.slice (some ⟨w.heap.size, 0, none⟩) n n) n L := by
  refine ⟨by omega, .inr ⟨w.heap.size, n, L.toArray, rfl, Nat.le_refl _, ?_, Nat.le_refl _, hn, by simp [h], by simp [← h]⟩⟩
  show (w.heap.push _)[w.heap.size]? = _
  exact Array.getElem?_push_size
theorem trim_le (l m : List UInt8) : (Lib.trimSuffix l m).length ≤ l.length := by
  unfold Lib.trimSuffix
  split
  · rw [List.length_take]; omega
  · exact Nat.le_refl _
set_option maxHeartbeats 2000000 in
theorem words_Lines_ok (k : Nat) : CallsOk Tryz.prog 104 [.one (.sc .str)] [.one (.row 9 [.str])] (words_Lines k) := ok_str_strs fun a0 r w hg h => by
  unfold words_Lines at h
  obtain ⟨hs', h2⟩ := cond_none h
  have hs := of_decide_eq_true hs'
  obtain rfl := Option.some.inj h2
  obtain ⟨m, hm⟩ := hg
  clear h h2 hs'
  by_cases he : a0.data.toList = []
  · have HP : Hid ((linesL a0.data.toList).map ofL = []) := Lib.hid (by unfold linesL; rw [if_pos he]; rfl)
    have h1 : a0.toList = [] := (ByteArray.toList_eq a0).trans he
    clear he
    go_enter Tryz.func104, Tryz.ntmps104
    go_wp2
    go_ret
    exact ⟨_, rfl, by rw [HP.out]; exact World.ownsRow_nil _ _ _ _, Below.refl _ _⟩
  · have h1 : a0.toList.isEmpty = false := by rw [ByteArray.toList_eq]; simpa using he
    have h2 : ¬ a0.toList = [] := by rw [ByteArray.toList_eq]; exact he
    have ht : (ofL (Lib.trimSuffix a0.data.toList [10])).size < 4294967281 := by
      have := trim_le a0.data.toList [10]
      have e : (ofL (Lib.trimSuffix a0.data.toList [10])).size = (Lib.trimSuffix a0.data.toList [10]).length := by simp [ofL, ByteArray.size]
      have e2 : a0.data.toList.length = a0.size := by simp
      omega
    have HP : Hid ((linesL a0.data.toList).map ofL = Lib.splitB ⟨#[10]⟩ 0 (Lib.countB (ofL (Lib.trimSuffix a0.data.toList [10])) ⟨#[10]⟩) (ofL (Lib.trimSuffix a0.data.toList [10]))) := Lib.hid (by
      unfold linesL; rw [if_neg he, split_ofL, data_ofL, trimF_eq])
    clear he
    have cT := Tryz.strings_TrimSuffix a0 ⟨#[10]⟩ w (by omega)
    obtain ⟨T, hT⟩ : ∃ T : ByteArray, ofL (Lib.trimSuffix a0.data.toList [10]) = T := ⟨_, rfl⟩
    have cT' : Calls Tryz.prog 160 #[.string a0, .string ⟨#[10]⟩] w fun e w' => e = .returned (.string T) ∧ w' = w := by rw [← hT]; exact cT
    clear cT
    rw [hT] at ht HP
    clear hT
    obtain ⟨n, hn⟩ : ∃ n, Lib.countB T ⟨#[10]⟩ + 1 = n := ⟨_, rfl⟩
    obtain ⟨L, hL⟩ : ∃ L, Lib.splitB ⟨#[10]⟩ 0 (Lib.countB T ⟨#[10]⟩) T = L := ⟨_, rfl⟩
    rw [hL] at HP
    have cS := Tryz.strings_Split T ⟨#[10]⟩ m w ht hm (by decide)
    rw [hn, hL] at cS
    have hlen : L.length = n := by rw [← hL, ← hn]; exact Lib.splitB_all ⟨#[10]⟩ (by decide) 0 _ T rfl
    have hnb : n ≤ 4294967282 := by have := Lib.countB_le ⟨#[10]⟩ (by decide) _ T (Nat.le_refl _); omega
    have Hlen := Lib.hid hlen
    clear hlen hL hn hm
    go_enter Tryz.func104, Tryz.ntmps104
    go_wp2_with (first
      | (go_at_call 160; refine cT'.mono ?_; rintro e w' ⟨rfl, hw⟩; subst hw)
      | (go_at_call 159; refine cS.mono ?_; rintro e w' ⟨rfl, rfl⟩))
    go_ret
    refine ⟨_, rfl, ?_, (Below.refl _ _).alloc (Nat.le_refl _) _⟩
    rw [HP.out]
    have hl := Hlen.out
    rw [hl]
    exact own_made (by simp [hl]) (by unfold maxLen; omega) 9
theorem num_Parse_ok (k : Nat) : CallsOk Tryz.prog 108 [.one (.sc .str), .one (.sc (.int .i64))] [.one (.sc (.int .i64)), .one (.sc .bool)] (num_Parse k) := ok_str_int fun a n q b w hg h => by
  unfold num_Parse at h
  rcases cond_some h with ⟨h1, h2⟩ | ⟨_, h2⟩
  · have hc := Num.Parse_calls a n w (of_decide_eq_true h1)
    rw [Option.some.inj h2] at hc
    exact hc
  · cases h2
noncomputable def words_Words_e (k : Nat) : Ent Tryz.prog := ⟨105, [.one (.sc .str)], [.one (.row 9 [.str])], words_Words k, words_Words_ok k, fun _ _ => by kernel_rfl⟩
noncomputable def words_Lines_e (k : Nat) : Ent Tryz.prog := ⟨104, [.one (.sc .str)], [.one (.row 9 [.str])], words_Lines k, words_Lines_ok k, fun _ _ => by kernel_rfl⟩
noncomputable def num_Parse_e (k : Nat) : Ent Tryz.prog := ⟨108, [.one (.sc .str), .one (.sc (.int .i64))], [.one (.sc (.int .i64)), .one (.sc .bool)], num_Parse k, num_Parse_ok k, fun _ _ => by kernel_rfl⟩
end Ex
namespace Ex
open Go Go.RowKit
structure Turned (fp : Nat → Prop) (w w' : World) : Prop where
  os : w'.os = w.os
  tape : w'.tape = w.tape
  output : w'.output = w.output
  size : w.heap.size ≤ w'.heap.size
  block : ∀ k, k < w.heap.size → ¬ fp k → w'.heap[k]? = w.heap[k]?
def tupV (gs : List Nat) : Value := .tuple (gs.map fun k : Nat => Value.int .i64 (k : Int)).toArray
theorem fpV_tupV (gs : List Nat) : fpV (tupV gs) = fun k => k ∈ gs := by
  funext k
  apply propext
  simp only [fpV, tupV, List.mem_map]
  constructor
  · rintro ⟨q, hq, he⟩
    cases he
    exact hq
  · intro h
    exact ⟨k, h, rfl⟩
section
variable {P : Program} {w0 : Org} {w w' : World} {N : Nat} {S : AS} {o : Oper} {ρ : Type} {r : ρ} {id0 : Nat} {m : Nm}
theorem Heap.objStep (h : Heap w0 m S.σ w) (hf : Fresh id0 S) {i j n : Nat} {x x' : OT n} (hσ : S.σ i = .obj n x j) (hT : Turned (fpV (m.v j)) w w') (gs : List Nat) (hg : ∀ k ∈ gs, fpV (m.v j) k ∨ w.heap.size ≤ k ∧ k < w'.heap.size) (hO : OIs n x' w0.heap.size (m.b i) (fun k => k ∈ gs) m.F w') :
    ∃ m', Grows (old id0) m m' w w' ∧ Heap w0 m' (updσ S.σ [(i, .obj n x' id0)]) w' := by
  have hb := h.blk i
  rw [hσ] at hb
  obtain ⟨b1, b2⟩ := hb
  let m' : Nm := ⟨setAt m.v id0 (tupV gs), m.b, m.F⟩
  have hG : Grows (old id0) m m' w w' := ⟨fun q hq => setAt_ne (old_ne (k := 0) (by decide) hq), fun _ _ => rfl, fun k hk => ⟨hk, hT.block k (h.flt k hk) (fun hf => (b1 k hf).2.2 hk)⟩⟩
  have hs := hT.size
  have hbs : w0.heap.size ≤ w.heap.size := h.below.size
  have hown : ∀ k, fpV (m.v j) k → blkOf m i (S.σ i) k := fun k hk => by rw [hσ]; exact hk
  refine ⟨m', hG, Heap.step (fun q => q = i) h hG hf.σ (fun q hq => ⟨by rw [updσ_one, if_neg hq], hf.p q⟩) (fun q k hq hk => ⟨hT.block k (blk_lt h hk).1 (fun hf => h.apart q i k hq hk (hown k hf)), (blk_lt h hk).2.1⟩) (fun q hq => ?_) (fun q l k hql hq h1 h2 => ?_) (fun k hk => Nat.lt_of_lt_of_le (h.flt k hk) hs) ⟨hT.os.trans h.below.os, hT.tape.trans h.below.tape, hT.output.trans h.below.output, Nat.le_trans h.below.size hs, fun k hk => (hT.block k (by omega) (fun hf => by have := (b1 k hf).1; omega)).trans (h.below.block k hk)⟩⟩
  · subst hq
    rw [updσ_one, if_pos rfl]
    have e : fpV (m'.v id0) = fun k => k ∈ gs := by
      show fpV (setAt m.v id0 (tupV gs) id0) = _
      rw [setAt_self, fpV_tupV]
    refine ⟨fun k hk => ?_, by rw [e]; exact hO⟩
    rw [e] at hk
    rcases hg k hk with hk | ⟨h1, h2⟩
    · obtain ⟨c1, c2, c3⟩ := b1 k hk
      exact ⟨c1, by omega, c3⟩
    · exact ⟨by omega, h2, fun hF => by have := h.flt k hF; omega⟩
  · subst hq
    rw [updσ_one, if_pos rfl] at h1
    rw [updσ_one, if_neg (Ne.symm hql), blkOf.same hG (hf.σ l) (hf.p l)] at h2
    have h1' : fpV (m'.v id0) k := h1
    rw [show m'.v id0 = tupV gs from setAt_self _ _ _, fpV_tupV] at h1'
    rcases hg k h1' with hk | ⟨h3, _⟩
    · exact h.apart q l k hql (hown k hk) h2
    · have := (blk_lt h h2).1; omega
theorem run_call {x : Operand} {args : Array Operand} {ts : Array TypeId} {f : FuncId} {a : Act} (ho : o.op = .call ⟨.value x, args, ts⟩) (hx : a.eval x = .func (.func f) #[] #[]) (hen : ∀ (args : Array Value) (w : World), (callFunc f args).run P w = .ok (.enter f args) w) : (execOp a.eval o).run P w = .ok (.enter f (args.map a.eval)) w := by
  have he := hen (args.map a.eval) w
  unfold execOp
  simp [ho, resolve, Deferred.ofValue, invoke, hx]
  simpa using he
theorem ev_fn {m : Nm} {a : Act} {x : Operand} {f : Nat} (hr : Rep w0 N m S a w) (h : S.ev x = .fn f []) : a.eval x = .func (.func f) #[] #[] := by
  have h1 := hr.ev x
  rw [h] at h1
  generalize a.eval x = z at h1
  cases h1 with | fn h1 =>
  cases h1
  rfl
end
end Ex
end Go.Proofs.YthlhbnaloefncaaGreatDoor
