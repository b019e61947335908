/- slices.Delete of one kind of rows, walked. -/
import Derived.Test.YtggikacbelogcaaGreatIns
import Derived.Deep.RegionLaw
namespace Go.Proofs.YtggikacbelogcaaGreat.Ex
open Go Go.RowKit
set_option linter.unusedVariables false
set_option linter.unusedSimpArgs false
def delF {α : Type} (l : List α) (x : Int × Int) : Option (List α) := bif decide (0 ≤ x.1) && (decide (x.1 < x.2) && decide (x.2 ≤ Int.ofNat l.length)) then some (l.take x.1.toNat ++ l.drop x.2.toNat) else none
theorem delF_some {α : Type} {l r : List α} {x : Int × Int} (h : delF l x = some r) : ∃ i j : Nat, x.1 = i ∧ x.2 = j ∧ i < j ∧ j ≤ l.length ∧ r = l.take i ++ l.drop j := by
  obtain ⟨i, j⟩ := x
  unfold delF at h
  rcases cond_some h with ⟨h1, h2⟩ | ⟨_, h2⟩
  · simp only [Bool.and_eq_true, decide_eq_true_eq] at h1
    obtain ⟨h3, h4, h5⟩ := h1
    have h5' : j ≤ (l.length : Int) := h5
    exact ⟨i.toNat, j.toNat, by simp only; omega, by simp only; omega, by omega, by omega, (Option.some.inj h2).symm⟩
  · cases h2
theorem wpList_clear_r {P : Program} (w : World) {ops : Array Oper} {rest : List Oper} {o : Oper} {a : Act} {Q : Exit → Act → World → Prop} (hgd : o.guard = none) (s : Operand) (t : TypeId)
    (ho : o.op = .call { callee := .builtin .clear, args := #[s], argTypes := #[t] }) (v : Value) (hs : a.eval s = v) {v' : Value} {w' : World}
    (hr : (Builtin.clear_ #[t] o.type #[v]).run P w = .ok v' w') (h : wpList P ops Q rest (a.put o.dst v') w') : wpList P ops Q (o :: rest) a w :=
  wpList_plain hgd fun _ hK => by
    unfold Oper.wp execOp
    simp only [ho, resolve, invoke, builtin, Sem.run_bind, Sem.run_pure, Result.andThen_ok, List.map_toArray, List.map_cons, List.map_nil, hs, hr]
    exact hK _ _ h
theorem step_app_r {P : Program} {ops : Array Oper} {o : Oper} {a : Act} {w : World} {K : Act → World → Prop} {Q : Exit → Act → World → Prop} {E : Prop}
    (hg : o.guard = none) (d x : Operand) (dT sT : TypeId) (hop : o.op = Op.call { callee := Callee.builtin Builtin.append, args := #[d, x], argTypes := #[dT, sT] })
    (v u : Value) (hd : a.eval d = v) (hx : a.eval x = u) {v' : Value} {w' : World} (hr : (Builtin.append_ #[dT, sT] o.type #[v, u]).run P w = .ok v' w') (hK : K (a.put o.dst v') w') :
    if Region.wanted o (yielded ops a.tmps) = true then Oper.wp P o a w K Q else E := by
  have hw : Region.wanted o (yielded ops a.tmps) = true := by simp [Region.wanted, hg]
  rw [if_pos hw]
  unfold Oper.wp
  simp [execOp, hop, resolve, invoke, builtin, hd, hx, hr, Result.andThen]
  exact hK
open Tryz
set_option maxHeartbeats 4000000 in
set_option maxRecDepth 100000 in
theorem del35_walk (b n c i j : Nat) (cs : List Value) (w : World) (cur : Array Value) (T : TypeId) (hij : i < j) (hjn : j ≤ n) (hnc : n ≤ c) (hc63 : c ≤ 9223372036854775807) (hh : w.heap[b]? = some (.cells cur T (0, 0))) (hsz : cur.size = c * 5) (hcl : cs.length = n * 5)
    (hcs : cur.toList.take (n * 5) = cs) (h1c : ∀ v ∈ cs, v.oneCell' = true) :
    Calls Tryz.prog 84 #[.slice (some ⟨b, 0, none⟩) n c, .int .i64 i, .int .i64 j] w fun e w' =>
      e = .returned (.slice (some ⟨b, 0, none⟩) (i + (n - j)) c) ∧ w'.os = w.os ∧ w'.tape = w.tape ∧ w'.output = w.output ∧ w'.heap = ((w.setCells b (i * 5) (cs.drop (j * 5))).setCells b ((i + (n - j)) * 5) (Builtin.zeroCells (Value.agg #[.int .i64 0, .int .i64 0, .int .i64 0, .int .i64 0, .int .i64 0]).cells (n - (i + (n - j)))).toList).heap := by
  obtain ⟨i0, hi0, hz0, hzs, hzb⟩ := info_parts (P := Tryz.prog) (e := 35) (z := .agg #[.int .i64 0, .int .i64 0, .int .i64 0, .int .i64 0, .int .i64 0]) (size := 5) (bytes := 40) (by kernel_rfl)
  have hcell : ∀ q, q < c * 5 → (w.cell? ⟨b, q, none⟩).isSome = true := fun q hq => by rw [blk_cell hh, Array.getElem?_eq_getElem (by omega)]; rfl
  have hget : ∀ q v, cs[q]? = some v → w.cell? ⟨b, q, none⟩ = some v := fun q v hq => by
    rw [← hcs] at hq
    have hlt : q < n * 5 := by
      have := (List.getElem?_eq_some_iff.1 hq).1
      rw [List.length_take] at this; omega
    rw [List.getElem?_take_of_lt hlt] at hq
    rw [blk_cell hh]
    simpa using hq
  have hfz : ∀ q, w.frozen? ⟨b, q, none⟩ = false := fun q => blk_frozen hh
  have hdl : (cs.drop (j * 5)).length = (n - j) * 5 := by rw [List.length_drop, hcl]; omega
  have hne : ¬ ((i : Int) = (j : Int)) := by omega
  have hb0 : (i : Int) ≤ (j : Int) := by omega
  have hb1 : (j : Int) ≤ (n : Int) := by omega
  have hb2 : (n : Int) ≤ (c : Int) := by omega
  have hb3 : (i : Int) ≤ (c : Int) := by omega
  have hb4 : (j : Int) ≤ (c : Int) := by omega
  have hb5 : ((i + (n - j) : Nat) : Int) ≤ (n : Int) := by omega
  have hq1 : ¬ (c = i + (n - j)) := by omega
  have hci : ¬ (c = i) := by omega
  obtain ⟨W1, hW1⟩ : ∃ W1, W1 = w.drew.setCells b (i * 5) (cs.drop (j * 5)) := ⟨_, rfl⟩
  have hap : ∀ (ad : Addr) ty, (∀ q u, (cs.drop (j * 5))[q]? = some u → w.cell? (ad.add q) = some u) → (Builtin.append_ #[23, 23] ty #[.slice (some ⟨b, 0, none⟩) i c, .slice (some ad) (n - j) (c - j)]).run Tryz.prog w.drew = .ok (.slice (some ⟨b, 0, none⟩) (i + (n - j)) c) W1 := fun ad ty had => by
    have h := run_append_room_cells (P := Tryz.prog) w.drew 23 ty 35 i0 Tryz.underlying23 hi0 b 0 i c ad (n - j) (c - j) (cs.drop (j * 5)) (by rw [hzs]; exact hdl) had (fun v hv => h1c v (List.mem_of_mem_drop hv)) (by omega) (fun q hq => by rw [hzs, Nat.zero_add]; exact hcell _ (by rw [hdl] at hq; omega)) (fun q hq => hfz _)
    rw [hzs, Nat.zero_add] at h
    rw [hW1]
    exact h
  have hh1 : W1.heap[b]? = some (.cells (setFrom cur (i * 5) (cs.drop (j * 5))) T (0, 0)) := by rw [hW1]; exact heap_setCells _ _ w.drew _ hh
  have hs1 : (setFrom cur (i * 5) (cs.drop (j * 5))).size = c * 5 := by
    rw [← Array.length_toList, setFrom_toList _ _ _ (by rw [hdl, Array.length_toList]; omega)]
    have := setL_len cur.toList (cs.drop (j * 5)) (i * 5) (by rw [hdl, Array.length_toList]; omega)
    unfold setL at this
    rw [this, Array.length_toList, hsz]
  have hclr : ∀ ty, (Builtin.clear_ #[23] ty #[.slice (some ⟨b, (i + (n - j)) * 5, none⟩) (n - (i + (n - j))) (c - (i + (n - j)))]).run Tryz.prog W1 = .ok (.tuple #[]) (W1.setCells b ((i + (n - j)) * 5) (Builtin.zeroCells (Value.agg #[.int .i64 0, .int .i64 0, .int .i64 0, .int .i64 0, .int .i64 0]).cells (n - (i + (n - j)))).toList) := fun ty =>
    run_clear_cells (P := Tryz.prog) (w := W1) (t := 23) (e := 35) (ty := ty) (z := .agg #[.int .i64 0, .int .i64 0, .int .i64 0, .int .i64 0, .int .i64 0]) (g := b) (off := (i + (n - j)) * 5) (n := n - (i + (n - j))) (c := c - (i + (n - j))) (T := T) Tryz.underlying23 (by kernel_rfl) (by decide) (by decide) (by omega) hh1 (by rw [hs1]; show (i + (n - j)) * 5 + (n - (i + (n - j))) * 5 ≤ c * 5; omega)
  clear hh1 hs1
  have hclr2 := hclr
  rw [hW1] at hclr2
  by_cases hcj : c = j
  · have hn0 : n - j = 0 := by omega
    have had : ∀ q u, (cs.drop (j * 5))[q]? = some u → w.cell? ((⟨b, 0, none⟩ : Addr).add q) = some u := fun q u hq => by
      rw [List.getElem?_eq_none (by rw [hdl, hn0]; omega)] at hq
      cases hq
    go_enter Tryz.func84, Tryz.ntmps84
    go_wp2_with fail
    go_region_law (refine step_app_r rfl _ _ 23 23 rfl (.slice (some ⟨b, 0, none⟩) i c) (.slice (some ⟨b, 0, none⟩) (n - j) (c - j)) (by first | (simp [Act.eval, Act.put]; done) | (simp [Act.eval, Act.put]; omega)) (by first | (simp [Act.eval, Act.put, hcj]; done) | (simp [Act.eval, Act.put, hcj]; omega)) (hap ⟨b, 0, none⟩ _ had) ?_)
    try go_wp2_with fail
    simp only [hn0, Nat.add_zero, hcj] at hclr2
    rw [hclr2]
    simp only [Result.andThen_ok, Oper.upon_value]
    go_wp2_with fail
    go_ret
    have r1 := setCells_rest b (Builtin.zeroCells (Value.agg #[.int .i64 0, .int .i64 0, .int .i64 0, .int .i64 0, .int .i64 0]).cells (n - i)).toList (i * 5) (w.drew.setCells b (i * 5) (cs.drop (j * 5)))
    have r2 := setCells_rest b (cs.drop (j * 5)) (i * 5) w.drew
    exact ⟨by rw [hn0, hcj]; rfl, r1.1.trans r2.1, r1.2.1.trans r2.2.1, r1.2.2.trans r2.2.2, by simp only [hn0, Nat.add_zero]; exact heap_setCells_eq b _ _ _ _ (heap_drew b _ _ w)⟩
  · have had : ∀ q u, (cs.drop (j * 5))[q]? = some u → w.cell? ((⟨b, j * 5, none⟩ : Addr).add q) = some u := fun q u hq => by
      rw [Addr.add_mid]
      rw [List.getElem?_drop] at hq
      exact hget _ _ hq
    go_enter Tryz.func84, Tryz.ntmps84
    go_wp2_with fail
    go_region_law (refine step_app_r rfl _ _ 23 23 rfl (.slice (some ⟨b, 0, none⟩) i c) (.slice (some ⟨b, j * 5, none⟩) (n - j) (c - j)) (by simp [Act.eval, Act.put]) (by simp [Act.eval, Act.put, hcj]) (hap ⟨b, j * 5, none⟩ _ had) ?_)
    try go_wp2_with fail
    go_ret
    have r1 := setCells_rest b (Builtin.zeroCells (Value.agg #[.int .i64 0, .int .i64 0, .int .i64 0, .int .i64 0, .int .i64 0]).cells (n - (i + (n - j)))).toList ((i + (n - j)) * 5) (w.drew.setCells b (i * 5) (cs.drop (j * 5)))
    have r2 := setCells_rest b (cs.drop (j * 5)) (i * 5) w.drew
    exact ⟨rfl, r1.1.trans r2.1, r1.2.1.trans r2.2.1, r1.2.2.trans r2.2.2, heap_setCells_eq b _ _ _ _ (heap_drew b _ _ w)⟩
/-- slices.Delete of these rows. -/
theorem del35_mut : MutOk Tryz.prog 84 35 [.int .i64, .int .i64, .int .i64, .int .i64, .int .i64] [.one (.sc (.int .i64)), .one (.sc (.int .i64))] false delF := by
  intro l (x : Int × Int) r w v vals base Fz Rd xs hx hown hbase hrows hFz hRd hno hargs
  obtain ⟨i, j, hi1, hj1, hij, hjl, rfl⟩ := delF_some hx
  obtain ⟨xi, xj⟩ := x
  simp only at hi1 hj1
  subst hi1
  subst hj1
  change List (Tup [.int .i64, .int .i64, .int .i64, .int .i64, .int .i64]) at l
  simp only [PTIs, PKIs, LKIs, SKIs] at hargs
  obtain ⟨u1, us, rfl, rfl, u2, rfl, rfl⟩ := hargs
  have hsl : ([.int .i64, .int .i64] : List SK).length = 2 := rfl
  rcases hown.2 with ⟨_, hl0⟩ | ⟨g, cap, cur, rfl, hg1, hg2, hg3, hg4, hg5, hg6⟩
  · omega
  have hlx : xs.length = l.length * 5 := hown.1
  have hx1 : ∀ u ∈ xs, u.oneCell' = true := hrows.one hown.1
  have hm63 : cap ≤ 9223372036854775807 := by unfold maxLen at hg4; omega
  have hcz : cur.size = cap * 5 := hg5
  have htk : cur.toList.take (l.length * 5) = xs := hg6
  refine (del35_walk g l.length cap i j xs w cur 35 hij hjl hg3 hm63 hg2 hcz hlx htk hx1).mono fun e w' hh => ?_
  obtain ⟨rfl, ho, ht, hou, hheap⟩ := hh
  have hdl : (xs.drop (j * 5)).length = l.length * 5 - j * 5 := by rw [List.length_drop, hlx]
  have hoth : ∀ k, k ≠ g → w'.heap[k]? = w.heap[k]? := fun k hk => by rw [hheap, heap_setCells_other hk, heap_setCells_other hk]
  have hst : Stays (fun k => Fz k) (fun k => Fz k) w w' := fun k hk => ⟨hk, hoth k (fun e => (hno g rfl).1 (e ▸ hk))⟩
  have hlen : (l.take i ++ l.drop j).length = i + (l.length - j) := by rw [List.length_append, List.length_take, List.length_drop]; omega
  generalize hzz : (Builtin.zeroCells (Value.agg #[.int .i64 0, .int .i64 0, .int .i64 0, .int .i64 0, .int .i64 0]).cells (l.length - (i + (l.length - j)))).toList = zz at hheap
  have hzl : zz.length = (l.length - (i + (l.length - j))) * 5 := by rw [← hzz]; simp [Builtin.zeroCells, Value.cells]
  have a1 := heap_setCells (xs.drop (j * 5)) (i * 5) w _ hg2
  have a2 := heap_setCells zz ((i + (l.length - j)) * 5) _ _ a1
  rw [← hheap] at a2
  have hcl : cur.toList.length = cap * 5 := by rw [Array.length_toList, hcz]
  have b1 : (setFrom cur (i * 5) (xs.drop (j * 5))).toList = setL cur.toList (i * 5) (xs.drop (j * 5)) := setFrom_toList _ _ _ (by rw [hdl]; omega)
  have b1l : (setL cur.toList (i * 5) (xs.drop (j * 5))).length = cur.toList.length := setL_len _ _ _ (by rw [hdl]; omega)
  have b2 : (setFrom (setFrom cur (i * 5) (xs.drop (j * 5))) ((i + (l.length - j)) * 5) zz).toList = setL (setL cur.toList (i * 5) (xs.drop (j * 5))) ((i + (l.length - j)) * 5) zz := by
    rw [← b1]; exact setFrom_toList _ _ _ (by rw [b1, b1l]; omega)
  have hrowsxs : RowsIs Fz w' [.int .i64, .int .i64, .int .i64, .int .i64, .int .i64] (l.take i ++ l.drop j) (xs.take (i * 5) ++ xs.drop (j * 5)) := by
    have h1 := RowsIs.take (RowsIs.move hst hrows) i
    have h2 := RowsIs.drop (RowsIs.move hst hrows) j
    refine RowsIs.app h1 h2 ?_
    show (xs.take (i * 5)).length = (l.take i).length * 5
    rw [List.length_take, List.length_take, hlx]; omega
  refine ⟨.slice (some ⟨g, 0, none⟩) (i + (l.length - j)) cap, xs.take (i * 5) ++ xs.drop (j * 5), rfl, fun h => (by cases h), ⟨?_, .inr ⟨g, cap, _, by rw [hlen], hg1, a2, by rw [hlen]; omega, hg4, ?_, ?_⟩⟩, hrowsxs, fun k hk => .inl hk, ⟨ho, ht, hou⟩, by rw [hheap, size_setCells, size_setCells]; exact hbase, fun k hk hne => hoth k (fun e => hne (by rw [e]; rfl))⟩
  · show _ = (l.take i ++ l.drop j).length * 5
    rw [hlen, List.length_append, List.length_take, hdl, hlx]; omega
  · show _ = cap * 5
    rw [← Array.length_toList, b2, setL_len _ _ _ (by rw [b1l]; omega), b1l, hcl]
  · show List.take ((l.take i ++ l.drop j).length * 5) _ = _
    rw [hlen, b2]
    apply List.ext_getElem?
    intro q
    by_cases hq : q < (i + (l.length - j)) * 5
    · rw [List.getElem?_take_of_lt hq, setL_get _ _ _ _ (by rw [b1l]; omega), if_neg (by omega), setL_get _ _ _ _ (by rw [hdl]; omega), hdl]
      by_cases h1 : q < i * 5
      · rw [if_neg (by omega), List.getElem?_append_left (by rw [List.length_take]; omega), ← htk, List.take_take, List.getElem?_take_of_lt (by omega)]
      · rw [if_pos (by omega), List.getElem?_append_right (by rw [List.length_take]; omega), List.length_take, Nat.min_eq_left (by omega)]
    · rw [List.getElem?_eq_none (by rw [List.length_take]; omega), List.getElem?_eq_none (by rw [List.length_append, List.length_take, hdl]; omega)]
end Go.Proofs.YtggikacbelogcaaGreat.Ex
