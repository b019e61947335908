/- slices.Repeat of one directive, once or twice: walked. -/
import Derived.Test.YtaknikdbnfmlfaaDoorExEE
import Derived.Test.YtaknikdbnfmlfaaDoorExDD
import Derived.Test.YtaknikdbnfmlfaaDoorProg
import Derived.Test.YtaknikdbnfmlfaaDoorShelf
import Derived.Lib.Walk
import Derived.Lib.SliceRun
import Derived.Laws.Externs
import Derived.Laws.IdiomCopy
import Derived.Laws.NewBlocks
import Derived.OwnWalk
import Derived.Deep.RegionLaw
import Derived.KernelRfl
namespace Go.Proofs.YtaknikdbnfmlfaaDoor.Ex
open Go Go.RowKit
set_option linter.unusedVariables false
set_option linter.unusedSimpArgs false
section
variable {P : Program}
theorem wp_copy_q (w : World) {o : Oper} {a : Act} {K : Act → World → Prop} {Q : Exit → Act → World → Prop} (d s : Operand) (t t' : TypeId)
    (ho : o.op = .call { callee := .builtin .copy, args := #[d, s], argTypes := #[t, t'] }) (v u : Value) (hd : a.eval d = v) (hs : a.eval s = u) {v' : Value} {w' : World}
    (hr : (Builtin.copy_ #[t, t'] o.type #[v, u]).run P w = .ok v' w') (h : K (a.put o.dst v') w') : o.wp P a w K Q := by
  unfold Oper.wp execOp
  simp only [ho, resolve, invoke, builtin, Sem.run_bind, Sem.run_pure, Result.andThen_ok, List.map_toArray, List.map_cons, List.map_nil, hd, hs, hr]
  exact h
theorem wpList_copy_q (w : World) {ops : Array Oper} {rest : List Oper} {o : Oper} {a : Act} {Q : Exit → Act → World → Prop} (hgd : o.guard = none) (d s : Operand) (t t' : TypeId)
    (ho : o.op = .call { callee := .builtin .copy, args := #[d, s], argTypes := #[t, t'] }) (v u : Value) (hd : a.eval d = v) (hs : a.eval s = u) {v' : Value} {w' : World}
    (hr : (Builtin.copy_ #[t, t'] o.type #[v, u]).run P w = .ok v' w') (h : wpList P ops Q rest (a.put o.dst v') w') : wpList P ops Q (o :: rest) a w :=
  wpList_plain hgd fun _ hK => wp_copy_q w d s t t' ho v u hd hs hr (hK _ _ h)
theorem step_copy_q {ops : Array Oper} {o : Oper} {a : Act} {w : World} {K : Act → World → Prop} {Q : Exit → Act → World → Prop} {E : Prop}
    (hg : o.guard = none) (d x : Operand) (dT sT : TypeId) (hop : o.op = Op.call { callee := Callee.builtin Builtin.copy, args := #[d, x], argTypes := #[dT, sT] })
    (v u : Value) (hd : a.eval d = v) (hx : a.eval x = u) {v' : Value} {w' : World} (hr : (Builtin.copy_ #[dT, sT] o.type #[v, u]).run P w = .ok v' w') (hK : K (a.put o.dst v') w') :
    if Region.wanted o (yielded ops a.tmps) = true then Oper.wp P o a w K Q else E := by
  have hw : Region.wanted o (yielded ops a.tmps) = true := by simp [Region.wanted, hg]
  rw [if_pos hw]
  unfold Oper.wp
  simp [execOp, hop, resolve, invoke, builtin, hd, hx, hr, Result.andThen]
  exact hK
end
open Tryd
theorem fill_all {cs : List Value} {Z : Array Value} (h : Z.size = cs.length) : setFrom Z 0 cs = cs.toArray := by
  have hz : Z.toList.length = Z.size := Array.length_toList
  apply Array.ext'
  rw [setFrom_toList cs 0 Z (by omega), List.take_zero, List.nil_append, List.drop_eq_nil_of_le (by omega), List.append_nil]
theorem fill_two {cs : List Value} {Z : Array Value} (h : Z.size = cs.length + cs.length) : setFrom (setFrom Z 0 cs) cs.length cs = (cs ++ cs).toArray := by
  have hz : Z.toList.length = Z.size := Array.length_toList
  have h1 : (setFrom Z 0 cs).toList = cs ++ Z.toList.drop cs.length := by
    rw [setFrom_toList cs 0 Z (by omega), List.take_zero, List.nil_append, Nat.zero_add]
  have h2 : (cs ++ Z.toList.drop cs.length).length = cs.length + cs.length := by rw [List.length_append, List.length_drop]; omega
  apply Array.ext'
  rw [setFrom_toList cs cs.length (setFrom Z 0 cs) (by rw [h1]; omega), h1, List.take_left, List.drop_eq_nil_of_le (by omega), List.append_nil]
theorem isSome_alloc {w : World} {cs : Array Value} {T : TypeId} {j : Nat} (h : j < cs.size) : ((w.alloc (.cells cs T)).cell? ⟨w.heap.size, j, none⟩).isSome = true := by
  rw [blk_cell (Array.getElem?_push_size), Array.getElem?_eq_getElem h]
  rfl
set_option maxHeartbeats 4000000 in
set_option maxRecDepth 100000 in
theorem rep_one (b o c : Nat) (cs : List Value) (w : World) (hc : 1 ≤ c) (hcl : cs.length = 13) (hcs : ∀ j v, cs[j]? = some v → w.cell? ⟨b, o + j, none⟩ = some v) (h1 : ∀ v ∈ cs, v.oneCell' = true) :
    Calls Tryd.prog 95 #[.slice (some ⟨b, o, none⟩) 1 c, .int .i64 1] w fun e w' => e = .returned (.slice (some ⟨w.heap.size, 0, none⟩) 1 1) ∧ w'.heap[w.heap.size]? = some (.cells cs.toArray 27 (0, 0)) ∧ Below w.heap.size w w' := by
  have hmul := fun w => Tryd.bits_Mul 1 1 (by decide) (by decide) w
  obtain ⟨i0, hi0, hz0, hzs, hzb⟩ := info_parts (P := Tryd.prog) (e := 27) (z := .agg #[.int .i64 0, .int .i64 0, .int .i64 0, .int .i64 0, .int .i64 0, .int .i64 0, .int .i64 0, .int .i64 0, .int .i64 0, .int .i64 0, .int .i64 0, .int .i64 0, .int .i64 0]) (size := 13) (bytes := 104) (by kernel_rfl)
  have hsz : sizeB Tryd.prog 27 = some 13 := by kernel_rfl
  obtain ⟨Z, hZ⟩ : ∃ Z, Z = madeCells (Value.agg #[.int .i64 0, .int .i64 0, .int .i64 0, .int .i64 0, .int .i64 0, .int .i64 0, .int .i64 0, .int .i64 0, .int .i64 0, .int .i64 0, .int .i64 0, .int .i64 0, .int .i64 0]).cells 13 := ⟨_, rfl⟩
  have hZs : Z.size = 13 := by rw [hZ]; exact size_madeCells _ _
  have hbw : b < w.heap.size := block_lt_of_cell (hcs 0 _ (List.getElem?_eq_getElem (by omega)))
  have hmk : ∀ u : World, (Instr.makeSlice 55 (.int .i64 1) (.int .i64 1)).run Tryd.prog u = .ok (.slice (some ⟨u.heap.size, 0, none⟩) 1 1) (u.alloc (.cells Z 27)) := fun u => by
    have h := run_make (P := Tryd.prog) (w := u) 55 27 i0 _ Tryd.underlying55 hi0 hz0 .i64 .i64 1 1 (by omega) (by omega) (by rw [hzb]; decide) (by omega)
    rw [hzs] at h
    rw [h, hZ]
    rfl
  have hcp : ∀ W : World, (∀ x, W.cell? x = (w.alloc (.cells Z 27)).cell? x) → (∀ x, W.frozen? x = (w.alloc (.cells Z 27)).frozen? x) → ∀ ty, (Builtin.copy_ #[55, 55] ty #[.slice (some ⟨w.heap.size, 0, none⟩) 1 1, .slice (some ⟨b, o, none⟩) 1 c]).run Tryd.prog W = .ok (goInt 1) (W.setCells w.heap.size 0 cs) := fun W hWc hWf ty => by
    have h := run_copy_n (P := Tryd.prog) (w := W) (dT := 55) (sT := 55) (ty := ty) (elem := 27) (b := w.heap.size) (o := 0) (dLen := 1) (dCap := 1) (a := ⟨b, o, none⟩) (sLen := 1) (sCap := c) (sz := 13) (cs := cs) Tryd.underlying55 hsz (by rw [hcl]; rfl)
      (fun j v hj => by
        rw [Addr.add_mid, hWc, World.cell?_of_block (w := w) (Below.heap_alloc w _ b hbw)]
        exact hcs j v hj)
      (fun j hj => by rw [hWc, Nat.zero_add]; exact isSome_alloc (by omega)) (fun j hj => by rw [hWf]; exact blk_frozen (Array.getElem?_push_size)) h1
    exact h
  go_enter Tryd.func95, Tryd.ntmps95
  go_wp2_with (first | (go_at_call 105; refine (hmul _).mono ?_; rintro e w' ⟨rfl, hw⟩; rw [hw]; clear hw) | simp only [hmk] | (at_builtin; refine wpList_copy_q _ rfl _ _ 55 55 rfl _ _ rfl rfl (hcp _ (fun _ => rfl) (fun _ => rfl) _) ?_))
  refine wp_loop_once ?_
  go_wp2
  go_ret
  exact ⟨rfl, by rw [heap_setCells cs 0 _ _ (Array.getElem?_push_size), fill_all (by rw [size_madeCells, hcl])], ((Below.refl _ _).alloc (Nat.le_refl _) _).trans (below_setCells (Nat.le_refl _) cs 0 _)⟩
set_option maxHeartbeats 4000000 in
set_option maxRecDepth 100000 in
theorem rep_two (b o c : Nat) (cs : List Value) (w : World) (hc : 1 ≤ c) (hcl : cs.length = 13) (hcs : ∀ j v, cs[j]? = some v → w.cell? ⟨b, o + j, none⟩ = some v) (h1 : ∀ v ∈ cs, v.oneCell' = true) :
    Calls Tryd.prog 95 #[.slice (some ⟨b, o, none⟩) 1 c, .int .i64 2] w fun e w' => e = .returned (.slice (some ⟨w.heap.size, 0, none⟩) 2 2) ∧ w'.heap[w.heap.size]? = some (.cells (cs ++ cs).toArray 27 (0, 0)) ∧ Below w.heap.size w w' := by
  have hmul := fun w => Tryd.bits_Mul 1 2 (by decide) (by decide) w
  obtain ⟨i0, hi0, hz0, hzs, hzb⟩ := info_parts (P := Tryd.prog) (e := 27) (z := .agg #[.int .i64 0, .int .i64 0, .int .i64 0, .int .i64 0, .int .i64 0, .int .i64 0, .int .i64 0, .int .i64 0, .int .i64 0, .int .i64 0, .int .i64 0, .int .i64 0, .int .i64 0]) (size := 13) (bytes := 104) (by kernel_rfl)
  have hsz : sizeB Tryd.prog 27 = some 13 := by kernel_rfl
  obtain ⟨Z, hZ⟩ : ∃ Z, Z = madeCells (Value.agg #[.int .i64 0, .int .i64 0, .int .i64 0, .int .i64 0, .int .i64 0, .int .i64 0, .int .i64 0, .int .i64 0, .int .i64 0, .int .i64 0, .int .i64 0, .int .i64 0, .int .i64 0]).cells 26 := ⟨_, rfl⟩
  have hZs : Z.size = 26 := by rw [hZ]; exact size_madeCells _ _
  have hbw : b < w.heap.size := block_lt_of_cell (hcs 0 _ (List.getElem?_eq_getElem (by omega)))
  have hmk : ∀ u : World, (Instr.makeSlice 55 (.int .i64 2) (.int .i64 2)).run Tryd.prog u = .ok (.slice (some ⟨u.heap.size, 0, none⟩) 2 2) (u.alloc (.cells Z 27)) := fun u => by
    have h := run_make (P := Tryd.prog) (w := u) 55 27 i0 _ Tryd.underlying55 hi0 hz0 .i64 .i64 2 2 (by omega) (by omega) (by rw [hzb]; decide) (by omega)
    rw [hzs] at h
    rw [h, hZ]
    rfl
  have hcp : ∀ W : World, (∀ x, W.cell? x = (w.alloc (.cells Z 27)).cell? x) → (∀ x, W.frozen? x = (w.alloc (.cells Z 27)).frozen? x) → ∀ ty, (Builtin.copy_ #[55, 55] ty #[.slice (some ⟨w.heap.size, 0, none⟩) 2 2, .slice (some ⟨b, o, none⟩) 1 c]).run Tryd.prog W = .ok (goInt 1) (W.setCells w.heap.size 0 cs) := fun W hWc hWf ty => by
    have h := run_copy_n (P := Tryd.prog) (w := W) (dT := 55) (sT := 55) (ty := ty) (elem := 27) (b := w.heap.size) (o := 0) (dLen := 2) (dCap := 2) (a := ⟨b, o, none⟩) (sLen := 1) (sCap := c) (sz := 13) (cs := cs) Tryd.underlying55 hsz (by rw [hcl]; rfl)
      (fun j v hj => by
        rw [Addr.add_mid, hWc, World.cell?_of_block (w := w) (Below.heap_alloc w _ b hbw)]
        exact hcs j v hj)
      (fun j hj => by rw [hWc, Nat.zero_add]; exact isSome_alloc (by omega)) (fun j hj => by rw [hWf]; exact blk_frozen (Array.getElem?_push_size)) h1
    exact h
  obtain ⟨W1, hW1⟩ : ∃ W1, W1 = (w.alloc (.cells Z 27)).setCells w.heap.size 0 cs := ⟨_, rfl⟩
  have hcp2 : ∀ W : World, (∀ x, W.cell? x = W1.cell? x) → (∀ x, W.frozen? x = W1.frozen? x) → ∀ ty, (Builtin.copy_ #[55, 55] ty #[.slice (some ⟨w.heap.size, 13, none⟩) 1 1, .slice (some ⟨w.heap.size, 0, none⟩) 1 2]).run Tryd.prog W = .ok (goInt 1) (W.setCells w.heap.size 13 cs) := fun W hWc hWf ty => by
    have h := run_copy_n (P := Tryd.prog) (w := W) (dT := 55) (sT := 55) (ty := ty) (elem := 27) (b := w.heap.size) (o := 13) (dLen := 1) (dCap := 1) (a := ⟨w.heap.size, 0, none⟩) (sLen := 1) (sCap := 2) (sz := 13) (cs := cs) Tryd.underlying55 hsz (by rw [hcl]; rfl)
      (fun j v hj => by
        have hjl : j < cs.length := (List.getElem?_eq_some_iff.1 hj).1
        rw [Addr.add_mid, hWc, hW1, World.cell?_setCells_in _ _ _ _ (fun j hj => by rw [Nat.zero_add]; exact isSome_alloc (by omega)) j hjl]
        rw [List.getElem?_eq_getElem hjl] at hj
        exact hj)
      (fun j hj => by
        rw [hWc, hW1, World.cell?_setCells_out _ _ _ _ _ (fun _ _ => by show 13 + j < 0 ∨ 0 + cs.length ≤ 13 + j; omega)]
        exact isSome_alloc (by omega)) (fun j hj => by rw [hWf, hW1, World.frozen?_setCells]; exact blk_frozen (Array.getElem?_push_size)) h1
    exact h
  go_enter Tryd.func95, Tryd.ntmps95
  go_wp2_with (first | (go_at_call 105; refine (hmul _).mono ?_; rintro e w' ⟨rfl, hw⟩; rw [hw]; clear hw) | simp only [hmk] | (at_builtin; refine wpList_copy_q _ rfl _ _ 55 55 rfl _ _ rfl rfl (hcp _ (fun _ => rfl) (fun _ => rfl) _) ?_))
  refine wp_loop_rounds 2 ?_
  rw [rounds_succ]
  go_wp2
  go_region_law (refine step_copy_q rfl _ _ 55 55 rfl _ _ (by simp [Act.eval, Act.put]) (by simp [Act.eval, Act.put]) (hcp2 _ (fun _ => by first | (rw [hW1]; rfl) | (rw [hW1, hZ]; rfl)) (fun _ => by first | (rw [hW1]; rfl) | (rw [hW1, hZ]; rfl)) _) ?_)
  simp only [Exit.inBlock, Exit.then]
  rw [rounds_succ]
  go_wp2
  go_ret
  have hfin : ∀ Z' : Array Value, Z' = Z → (((w.alloc (.cells Z' 27)).setCells w.heap.size 0 cs).drew.setCells w.heap.size 13 cs).heap[w.heap.size]? = some (.cells (cs ++ cs).toArray 27 (0, 0)) := by
    intro Z' hq
    rw [hq]
    have h2 := fill_two (cs := cs) (Z := Z) (by omega)
    rw [hcl] at h2
    have h3 := heap_setCells cs 0 (w.alloc (.cells Z 27)) Z (Array.getElem?_push_size)
    have h4 := heap_setCells cs 13 ((w.alloc (.cells Z 27)).setCells w.heap.size 0 cs).drew _ h3
    rw [h4, h2]
  exact ⟨rfl, hfin _ hZ.symm, (((Below.refl _ _).alloc (Nat.le_refl _) _).trans (below_setCells (Nat.le_refl _) cs 0 _)).drew.trans (below_setCells (Nat.le_refl _) cs 13 _)⟩
abbrev kRep : List SK := [.int .i64, .int .i64, .int .i64, .int .i64, .int .i64, .int .i64, .int .i64, .int .i64, .int .i64, .int .i64, .int .i64, .int .i64, .int .i64]
/-- slices.Repeat, of one, once or twice. -/
def slices_Repeat (_k : Nat) (x : List (Tup kRep) × Int) : Option (List (Tup kRep)) := match x.1 with
  | [d] => bif decide (x.2 = 1) then some [d] else bif decide (x.2 = 2) then some [d, d] else none
  | _ => none
theorem rets_rep {T : TypeId} {xs : List (Tup kRep)} {L : List Value} {v : Value} {w w' : World} (h : w'.ownsRow w.heap.size T 13 v xs.length L) (hL : RowsIs (fun _ => False) w' kRep xs L) : Rets [.one (.row T kRep)] w w' xs v :=
  ⟨⟨[v], [v], fun _ => False, rfl, ⟨v, rfl, rfl, L, h, hL⟩, ⟨fun u hu => (by cases hu), trivial⟩, fun u hu k hk hf => hf, fun k hk => hk.elim⟩⟩
theorem slices_Repeat_ok (k : Nat) : CallsOk Tryd.prog 95 [.one (.row 27 kRep), .one (.sc (.int .i64))] [.one (.row 27 kRep)] (slices_Repeat k) := by
  intro x r w vals hx hargs hgk
  obtain ⟨l, c⟩ := x
  unfold slices_Repeat at hx
  split at hx
  · rename_i d hl
    have hl' : l = [d] := hl
    subst hl'
    simp only [PTIs, PKIs, LKIs] at hargs
    obtain ⟨u, us, rfl, hrow, u2, rfl, hc⟩ := hargs
    simp only [SKIs] at hc
    subst hc
    simp only [SKIs] at hrow
    obtain ⟨A, cap, rfl, hcap, hr⟩ := hrow
    obtain ⟨b, o, cs, rfl, hok, hlen, hcs, ht⟩ := hr 0 d rfl
    have hlen : cs.length = 13 := hlen
    have hcs' : ∀ j v, cs[j]? = some v → w.cell? ⟨b, o + j, none⟩ = some v := fun j v hj => by
      have := hcs j v hj
      rwa [Nat.zero_mul, Nat.add_zero] at this
    have h1 : ∀ v ∈ cs, v.oneCell' = true := by
      simp only [TupIs, SKIs] at ht
      obtain ⟨_, _, rfl, rfl, _, _, rfl, rfl, _, _, rfl, rfl, _, _, rfl, rfl, _, _, rfl, rfl, _, _, rfl, rfl, _, _, rfl, rfl, _, _, rfl, rfl, _, _, rfl, rfl, _, _, rfl, rfl, _, _, rfl, rfl, _, _, rfl, rfl, _, rfl, rfl⟩ := ht
      intro v hv
      simp only [List.mem_cons, List.not_mem_nil, or_false] at hv
      rcases hv with rfl | rfl | rfl | rfl | rfl | rfl | rfl | rfl | rfl | rfl | rfl | rfl | rfl <;> rfl
    rcases cond_some hx with ⟨hc, h⟩ | ⟨_, h⟩
    · have hc := of_decide_eq_true hc
      obtain rfl := Option.some.inj h
      have hc' : c = (1 : Int) := hc
      subst hc'
      refine (rep_one b o cap cs w hcap hlen hcs' h1).mono ?_
      rintro e w' ⟨rfl, hh, hb⟩
      refine ⟨_, rfl, rets_rep (L := cs) ⟨by simpa using hlen, .inr ⟨_, _, _, rfl, Nat.le_refl _, hh, Nat.le_refl _, by decide, by simpa using hlen, List.take_of_length_le (by show cs.length ≤ 13; omega)⟩⟩ ?_, hb⟩
      intro i y hy
      match i, hy with
      | 0, hy =>
        cases hy
        rw [Nat.zero_mul, List.drop_zero, List.take_of_length_le (by show cs.length ≤ 13; omega)]
        simp only [TupIs, SKIs] at ht ⊢
        exact ht
      | i + 1, hy => cases hy
    · rcases cond_some h with ⟨hc, h⟩ | ⟨_, h⟩
      · have hc := of_decide_eq_true hc
        obtain rfl := Option.some.inj h
        have hc' : c = (2 : Int) := hc
        subst hc'
        refine (rep_two b o cap cs w hcap hlen hcs' h1).mono ?_
        rintro e w' ⟨rfl, hh, hb⟩
        refine ⟨_, rfl, rets_rep (L := cs ++ cs) ⟨by simp [hlen], .inr ⟨_, _, _, rfl, Nat.le_refl _, hh, Nat.le_refl _, by decide, by simp [hlen], List.take_of_length_le (by show (cs ++ cs).length ≤ 26; simp [hlen])⟩⟩ ?_, hb⟩
        intro i y hy
        match i, hy with
        | 0, hy =>
          cases hy
          rw [Nat.zero_mul, List.drop_zero, show kRep.length = cs.length from hlen.symm, List.take_left]
          simp only [TupIs, SKIs] at ht ⊢
          exact ht
        | 1, hy =>
          cases hy
          rw [Nat.one_mul, show kRep.length = cs.length from hlen.symm, List.drop_left, List.take_of_length_le (Nat.le_refl _)]
          simp only [TupIs, SKIs] at ht ⊢
          exact ht
        | i + 2, hy => cases hy
      · cases h
  · cases hx
end Go.Proofs.YtaknikdbnfmlfaaDoor.Ex
