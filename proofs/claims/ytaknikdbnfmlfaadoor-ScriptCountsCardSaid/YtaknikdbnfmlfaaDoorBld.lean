/- strings.Builder: copyCheck, WriteString, String walked, with their frames; what the executor makes of them (object 0). -/
import Derived.Test.YtaknikdbnfmlfaaDoorExOp
import Derived.Test.YtaknikdbnfmlfaaDoorExP
import Derived.Shelf.Strings.Builder1
namespace Go.Proofs.YtaknikdbnfmlfaaDoor.Ex
open Go Go.RowKit
set_option linter.unusedVariables false
set_option linter.unusedSimpArgs false
theorem infoB : (Tryd.prog.info? 99).map (fun j => j.size) = some 2 := by kernel_rfl
theorem info5 : (Tryd.prog.info? 5).map (fun i => (i.zero, i.size, i.bytes)) = some (some (.int .u8 0), 1, 1) := by kernel_rfl
theorem liesB : liesAt Tryd.prog Tryd.prog.depth 99 (2 / Tryd.prog.cellsOf 99) 0 99 1 = true := by kernel_rfl
set_option maxHeartbeats 1000000 in
set_option maxRecDepth 100000 in
theorem cc_used (b : Nat) (w : World) (h0 : w.cell? ⟨b, 0, none⟩ = some (.pointer (some ⟨b, 0, none⟩))) :
    Calls Tryd.prog 84 #[.pointer (some ⟨b, 0, none⟩)] w fun e w' => e = .returned (.tuple #[]) ∧ w' = w := by
  obtain ⟨j, hj, _⟩ := Option.map_eq_some_iff.1 infoB
  go_enter Tryd.func84, Tryd.ntmps84
  go_wp2
  rw [Lib.run_neq_ptr_same w _ Tryd.underlying97 hj]
  go_wp2
  go_end0
  exact ⟨rfl, rfl⟩
set_option maxHeartbeats 1000000 in
set_option maxRecDepth 100000 in
theorem cc_fresh (b : Nat) (w : World) (h0 : w.cell? ⟨b, 0, none⟩ = some (.pointer none)) (hsh : w.shape? b = some (99, 2)) (hfz : w.frozen? ⟨b, 0, none⟩ = false) :
    Calls Tryd.prog 84 #[.pointer (some ⟨b, 0, none⟩)] w fun e w' => e = .returned (.tuple #[]) ∧ w' = w.setCell ⟨b, 0, none⟩ (.pointer (some ⟨b, 0, none⟩)) := by
  obtain ⟨j, hj, hjs⟩ := Option.map_eq_some_iff.1 infoB
  go_enter Tryd.func84, Tryd.ntmps84
  go_wp2
  rw [Lib.run_to_unsafe w ⟨b, 0, none⟩ Tryd.underlying97 Tryd.underlying126 hj (by rw [hjs]; decide) hsh (Nat.zero_lt_succ 1)]
  simp only [Result.andThen]
  rw [Oper.upon_value]
  go_wp2
  rw [run_callFunc_extern Tryd.func96 (by kernel_rfl) (by kernel_rfl) (by kernel_rfl) (e := Extern.AbiNoEscape.same) (by kernel_rfl)]
  rw [Lib.run_noEscape]
  simp only [Result.andThen]
  rw [Oper.upon_value]
  go_wp2
  rw [Lib.run_from_unsafe w ⟨b, 0, none⟩ Tryd.underlying126 Tryd.underlying97 hj hsh liesB]
  simp only [Result.andThen]
  rw [Oper.upon_value]
  go_wp2
  go_end0
  exact ⟨rfl, rfl⟩
theorem str_at {w : World} {P : Program} (base : Nat) (t u ty e : TypeId) (i : TypeInfo) (ht : P.underlying t = some (.slice e)) (hu : P.underlying u = some .string) (hi : P.info? e = some i) (hz : i.zero = some (.int .u8 0)) (hsize : i.size = 1) (hby : i.bytes = 1)
    (v : Value) (n : Nat) (xs : List Value) (hown : w.ownsRow base e 1 v n xs) (s : ByteArray) (h63 : n + s.size ≤ maxLen) (hbytes : n + s.size ≤ 140737488355328) (hbase : base ≤ w.heap.size) :
    ∃ v' w', (Builtin.append_ #[t, u] ty #[v, .string s]).run P w = .ok v' w' ∧ w'.ownsRow base e 1 v' (n + s.size) (xs ++ Lib.strCells s) ∧ w.grownBy w' v.ownBlock ∧ (v'.ownBlock = v.ownBlock ∨ v'.ownBlock = some w.heap.size) := by
  obtain ⟨v', w', h1, h2, h3, h4⟩ := Lib.run_append_own_string (P := P) w base t u ty e i ht hu hi hz hsize hby v n xs hown s h63 hbytes hbase
  refine ⟨v', w', h1, h2, h3, ?_⟩
  have hsmall : n + s.size ≤ 9223372036854775807 := by simp only [maxLen] at h63; omega
  rcases hown.2 with ⟨rfl, rfl⟩ | ⟨g, cap, cur, rfl, hbg, hg, hnc, hcm, hcs, htake⟩
  · by_cases hm : s.size = 0
    · rw [h4.2 ⟨rfl, hm⟩]; exact .inl rfl
    · have hr := Go.run_append_nil_string (P := P) w t u ty e i (.int .u8 0) ht hu hi hz s (by omega) (by omega) (by rw [hby]; omega)
      rw [h1] at hr
      cases hr
      exact .inr rfl
  · by_cases hroom : n + s.size ≤ cap
    · have hcs' : cur.size = cap := by simpa using hcs
      have hr := Lib.run_append_room_string (P := P) w t u ty e i ht hu hi hsize g n cap cur hg s hroom (by omega)
      rw [h1] at hr
      cases hr
      exact .inl rfl
    · have holds : ∀ j u, xs[j]? = some u → w.cell? ((⟨g, 0, none⟩ : Addr).add j) = some u := hown.cells (g := g) rfl
      have hr := Lib.run_append_grow_string (P := P) w t u ty e i (.int .u8 0) ht hu hi hz ⟨g, 0, none⟩ n cap xs (by rw [hsize]; simpa using hown.1) holds s (by omega) (by omega) (by rw [hby]; exact growslice_fits (by omega) (by omega))
      rw [h1] at hr
      cases hr
      exact .inr rfl
theorem wpList_str {P : Program} {w : World} {ops : Array Oper} {rest : List Oper} {o : Oper} {a : Act} {Q : Exit → Act → World → Prop} (hgd : o.guard = none) (sl x : Operand) (t u : TypeId)
    (ho : o.op = .call { callee := .builtin .append, args := #[sl, x], argTypes := #[t, u] })
    (base : Nat) (e : TypeId) (i : TypeInfo) (ht : P.underlying t = some (.slice e)) (hu : P.underlying u = some .string) (hi : P.info? e = some i) (hz : i.zero = some (.int .u8 0)) (hsize : i.size = 1) (hby : i.bytes = 1)
    (v : Value) (n : Nat) (xs : List Value) (hs : a.eval sl = v) (hown : w.ownsRow base e 1 v n xs) (s : ByteArray) (hx : a.eval x = .string s)
    (h63 : n + s.size ≤ maxLen) (hbytes : n + s.size ≤ 140737488355328) (hbase : base ≤ w.heap.size)
    (h : ∀ v' w', w'.ownsRow base e 1 v' (n + s.size) (xs ++ Lib.strCells s) → w.grownBy w' v.ownBlock → (v'.ownBlock = v.ownBlock ∨ v'.ownBlock = some w.heap.size) → wpList P ops Q rest (a.put o.dst v') w') : wpList P ops Q (o :: rest) a w := by
  refine wpList_plain hgd fun K hK => ?_
  obtain ⟨v', w', hr, h2, h3, h4⟩ := str_at (P := P) base t u o.type e i ht hu hi hz hsize hby v n xs hown s h63 hbytes hbase
  unfold Oper.wp execOp
  simp only [ho, resolve, invoke, builtin, Sem.run_bind, Sem.run_pure, Result.andThen_ok, List.map_toArray, List.map_cons, List.map_nil, hs, hx, hr]
  exact hK _ _ (h v' w' h2 h3 h4)
/-- What a call leaves of the blocks that it may turn. -/
structure Turned (fp : Nat → Prop) (w w' : World) : Prop where
  os : w'.os = w.os
  tape : w'.tape = w.tape
  output : w'.output = w.output
  size : w.heap.size ≤ w'.heap.size
  block : ∀ k, k < w.heap.size → ¬ fp k → w'.heap[k]? = w.heap[k]?
set_option maxHeartbeats 2000000 in
set_option maxRecDepth 100000 in
theorem ws_calls (B b : Nat) (fp F : Nat → Prop) (s t : ByteArray) (w : World) (h : OIs 0 s B b fp F w) (hlen : s.size + t.size ≤ 140737488355328) (hBw : B ≤ w.heap.size) :
    Calls Tryd.prog 62 #[.pointer (some ⟨b, 0, none⟩), .string t] w fun e w' => (∃ v, e = .returned v) ∧ Turned fp w w' ∧ ∃ g : Nat, (fp g ∨ w.heap.size ≤ g ∧ g < w'.heap.size) ∧ OIs 0 (s ++ t) B b (fun k => k = b ∨ k = g) F w' := by
  obtain ⟨hB, hfb, p, v, hp, hbk, hown, hne, hvf⟩ := h
  obtain ⟨i0, hi, hz0, hz1, hz2⟩ := info_parts info5
  have hlt : b < w.heap.size := by
    rcases Nat.lt_or_ge b w.heap.size with h' | h'
    · exact h'
    · simp [Array.getElem?_eq_none h'] at hbk
  have hcc : Calls Tryd.prog 84 #[.pointer (some ⟨b, 0, none⟩)] w fun e w' => e = .returned (.tuple #[]) ∧ w'.heap[b]? = some (.cells #[.pointer (some ⟨b, 0, none⟩), v] 99 (0, 0)) ∧ Turned (fun k => k = b) w w' ∧ w'.heap.size = w.heap.size := by
    rcases hp with rfl | rfl
    · refine (cc_fresh b w (by rw [Lib.cell_of_heap hbk]; rfl) (by simp [World.shape?, hbk]) (Lib.frozen_of_heap hbk 0)).mono ?_
      rintro e w' ⟨rfl, rfl⟩
      refine ⟨rfl, by simp [World.setCell, Array.getElem?_modify, hbk], ⟨rfl, rfl, rfl, by simp [World.setCell], fun k _ hk => Below.heap_setCell _ _ _ _ (fun e => hk (by simp [e]))⟩, by simp [World.setCell]⟩
    · refine (cc_used b w (by rw [Lib.cell_of_heap hbk]; rfl)).mono ?_
      rintro e w' ⟨rfl, rfl⟩
      exact ⟨rfl, hbk, ⟨rfl, rfl, rfl, Nat.le_refl _, fun _ _ _ => rfl⟩, rfl⟩
  clear hp hbk
  go_enter Tryd.func62, Tryd.ntmps62
  go_wp2_with (go_at_call 84; refine hcc.mono ?_)
  rintro e w1 ⟨rfl, hbk, hT, hsz⟩
  have hown1 : w1.ownsRow B 5 1 v (Lib.strCells s).length (Lib.strCells s) := own_move' hown (fun k hk => hT.block k (hown.lt k hk).2 (fun e => hne (by rw [hk, e])))
  rw [Lib.strCells_length] at hown1
  have c1 : w1.cell? ⟨b, 1, none⟩ = some v := by rw [Lib.cell_of_heap hbk]; rfl
  go_wp2_with (at_builtin; refine wpList_str rfl _ _ 38 9 rfl B 5 i0 Tryd.underlying38 Tryd.underlying9 hi hz0 hz1 hz2 _ _ _ rfl hown1 t rfl ?c3 ?c4 ?c5 ?_)
  case c3 => unfold maxLen; omega
  case c4 => omega
  case c5 => omega
  intro v' w2 hown' hgrow hob
  have hb2 : w2.heap[b]? = some (.cells #[.pointer (some ⟨b, 0, none⟩), v] 99 (0, 0)) := by
    rw [hgrow.block b (by omega) (fun e => hne e.symm)]
    exact hbk
  have d1 : w2.cell? ⟨b, 1, none⟩ = some v := by rw [Lib.cell_of_heap hb2]; rfl
  have f1 : w2.frozen? ⟨b, 1, none⟩ = false := Lib.frozen_of_heap hb2 1
  obtain ⟨ao, n', cap, rfl⟩ : ∃ ao n' cap, v' = .slice ao n' cap := by
    rcases hown'.2 with ⟨hv, _⟩ | ⟨g, cap, cur, hv, _⟩
    · exact ⟨_, _, _, hv⟩
    · exact ⟨_, _, _, hv⟩
  have hgs := hgrow.size
  go_wp2
  go_ret2
  have hne' : (Value.slice ao n' cap).ownBlock ≠ some b := by
    rcases hob with h | h
    · rw [h]; exact hne
    · rw [h]; intro e; cases e; omega
  have hcells : Lib.strCells (s ++ t) = Lib.strCells s ++ Lib.strCells t := by simp [Lib.strCells, ByteArray.data_append]
  refine ⟨⟨_, rfl⟩, ⟨by show w2.os = _; rw [hgrow.os, hT.os], by show w2.tape = _; rw [hgrow.tape, hT.tape], by show w2.output = _; rw [hgrow.output, hT.output], by simp [World.setCell]; omega, fun k hk hf => ?_⟩, ?_⟩
  · have hkb : k ≠ b := fun e => hf (e ▸ hfb)
    rw [Below.heap_setCell _ _ _ _ (fun e => hkb e), hgrow.block k (by omega) (fun e => hf (hvf k e.symm)), hT.block k hk hkb]
  · have hown2 : (w2.setCell ⟨b, 1, none⟩ (.slice ao n' cap)).ownsRow B 5 1 (.slice ao n' cap) (Lib.strCells (s ++ t)).length (Lib.strCells (s ++ t)) := by
      have := own_move' (w1 := w2.setCell ⟨b, 1, none⟩ (.slice ao n' cap)) hown' (fun k hk => Below.heap_setCell _ _ _ _ (fun e => hne' (by rw [hk, e])))
      rw [hcells, List.length_append, Lib.strCells_length, Lib.strCells_length]
      exact this
    have hset : (w2.setCell ⟨b, 1, none⟩ (.slice ao n' cap)).heap[b]? = some (.cells #[.pointer (some ⟨b, 0, none⟩), .slice ao n' cap] 99 (0, 0)) := by simp [World.setCell, Array.getElem?_modify, hb2]
    cases hg : (Value.slice ao n' cap).ownBlock with
    | none => exact ⟨b, .inl hfb, hB, .inl rfl, _, _, .inr rfl, hset, hown2, hne', fun k hk => by rw [hg] at hk; cases hk⟩
    | some g =>
      refine ⟨g, ?_, hB, .inl rfl, _, _, .inr rfl, hset, hown2, hne', fun k hk => by rw [hg] at hk; cases hk; exact .inr rfl⟩
      rcases hob with h | h
      · exact .inl (hvf g (h.symm.trans hg))
      · rw [hg] at h
        cases h
        have := (hown2.lt _ hg).2
        exact .inr ⟨by omega, this⟩
theorem us_none (W : World) (q : Option Addr) : (Builtin.unsafeString_ #[119, 3] 9 #[.pointer q, .int .i64 0]).run Tryd.prog W = .ok (.string .empty) W := Lib.run_unsafeString_none W _ _ _ q
set_option maxHeartbeats 2000000 in
set_option maxRecDepth 100000 in
theorem st_nil (b : Nat) (fp : Nat → Prop) (p : Value) (w : World) (hbk : w.heap[b]? = some (.cells #[p, .slice none 0 0] 99 (0, 0))) :
    Calls Tryd.prog 64 #[.pointer (some ⟨b, 0, none⟩)] w fun e w' => e = .returned (.string ⟨#[]⟩) ∧ Turned fp w w' := by
  have hUS := us_none
  have mixed : Tryd.prog.follows .mixedOrders = true := by kernel_rfl
  have c1 : w.drew.cell? ⟨b, 1, none⟩ = some (.slice none 0 0) := by
    have : w.drew.heap[b]? = some (.cells #[p, .slice none 0 0] 99 (0, 0)) := hbk
    rw [Lib.cell_of_heap this]; rfl
  have hSD : (Builtin.unsafeSliceData_ #[38] 119 #[.slice none 0 0]).run Tryd.prog w.drew = .ok (.pointer none) w.drew := rfl
  go_enter Tryd.func64, Tryd.ntmps64
  go_wp2
  go_region_o
  all_goals (go_wp2; go_ret; exact ⟨rfl, rfl, rfl, rfl, Nat.le_refl _, fun _ _ _ => rfl⟩)
set_option maxHeartbeats 2000000 in
set_option maxRecDepth 100000 in
theorem st_noroom (b g : Nat) (fp : Nat → Prop) (p : Value) (cur : Array Value) (w : World) (hbk : w.heap[b]? = some (.cells #[p, .slice (some ⟨g, 0, none⟩) 0 0] 99 (0, 0))) (hg : w.heap[g]? = some (.cells cur 5 (0, 0))) :
    Calls Tryd.prog 64 #[.pointer (some ⟨b, 0, none⟩)] w fun e w' => e = .returned (.string ⟨#[]⟩) ∧ Turned fp w w' := by
  have hUS := us_none
  have mixed : Tryd.prog.follows .mixedOrders = true := by kernel_rfl
  have hlt : b < w.heap.size := by
    rcases Nat.lt_or_ge b w.heap.size with h' | h'
    · exact h'
    · simp [Array.getElem?_eq_none h'] at hbk
  have c1 : w.drew.cell? ⟨b, 1, none⟩ = some (.slice (some ⟨g, 0, none⟩) 0 0) := by
    have : w.drew.heap[b]? = some (.cells #[p, .slice (some ⟨g, 0, none⟩) 0 0] 99 (0, 0)) := hbk
    rw [Lib.cell_of_heap this]; rfl
  have hSD : (Builtin.unsafeSliceData_ #[38] 119 #[.slice (some ⟨g, 0, none⟩) 0 0]).run Tryd.prog w.drew = .ok (.pointer (some ⟨w.drew.heap.size, 0, none⟩)) (w.drew.alloc (.view ⟨g, 0, none⟩ 5)) :=
    Lib.run_unsafeSliceData_zero w.drew _ _ 5 Tryd.underlying119 ⟨g, 0, none⟩ 0 (5, cur.size) (by have hg' : w.drew.heap[g]? = some (.cells cur 5 (0, 0)) := hg; simp [World.shape?, hg'])
  have c2 : (w.drew.alloc (.view ⟨g, 0, none⟩ 5)).cell? ⟨b, 1, none⟩ = some (.slice (some ⟨g, 0, none⟩) 0 0) := by
    have : (w.drew.alloc (.view ⟨g, 0, none⟩ 5)).heap[b]? = _ := (Lib.alloc_old w.drew _ b hlt).trans hbk
    rw [Lib.cell_of_heap this]; rfl
  have c3 : (w.alloc (.view ⟨g, 0, none⟩ 5)).drew.cell? ⟨b, 1, none⟩ = some (.slice (some ⟨g, 0, none⟩) 0 0) := c2
  have c0 : w.cell? ⟨b, 1, none⟩ = some (.slice (some ⟨g, 0, none⟩) 0 0) := c1
  have hfin : Turned fp w (w.drew.alloc (.view ⟨g, 0, none⟩ 5)) := ⟨rfl, rfl, rfl, by simp [World.alloc], fun k hk _ => Lib.alloc_old w.drew _ k hk⟩
  go_enter Tryd.func64, Tryd.ntmps64
  go_wp2
  go_region_o
  all_goals (go_wp2; go_ret; exact ⟨rfl, hfin⟩)
set_option maxHeartbeats 2000000 in
set_option maxRecDepth 100000 in
theorem st_room (b g cap : Nat) (fp : Nat → Prop) (p : Value) (w : World) (hc0 : cap ≠ 0) (hbk : w.heap[b]? = some (.cells #[p, .slice (some ⟨g, 0, none⟩) 0 cap] 99 (0, 0))) :
    Calls Tryd.prog 64 #[.pointer (some ⟨b, 0, none⟩)] w fun e w' => e = .returned (.string ⟨#[]⟩) ∧ Turned fp w w' := by
  have hUS := us_none
  have mixed : Tryd.prog.follows .mixedOrders = true := by kernel_rfl
  have c1 : w.drew.cell? ⟨b, 1, none⟩ = some (.slice (some ⟨g, 0, none⟩) 0 cap) := by
    have : w.drew.heap[b]? = some (.cells #[p, .slice (some ⟨g, 0, none⟩) 0 cap] 99 (0, 0)) := hbk
    rw [Lib.cell_of_heap this]; rfl
  have hSD : (Builtin.unsafeSliceData_ #[38] 119 #[.slice (some ⟨g, 0, none⟩) 0 cap]).run Tryd.prog w.drew = .ok (.pointer (some ⟨g, 0, none⟩)) w.drew :=
    Lib.run_unsafeSliceData_row _ _ _ _ _ _ hc0
  clear hc0
  go_enter Tryd.func64, Tryd.ntmps64
  go_wp2
  go_region_o
  all_goals (go_wp2; go_ret; exact ⟨rfl, rfl, rfl, rfl, Nat.le_refl _, fun _ _ _ => rfl⟩)
set_option maxHeartbeats 2000000 in
set_option maxRecDepth 100000 in
theorem st_some (B b g cap : Nat) (fp : Nat → Prop) (hfg : fp g) (p : Value) (cur : Array Value) (l : List UInt8) (h0 : l ≠ []) (w : World) (hbk : w.heap[b]? = some (.cells #[p, .slice (some ⟨g, 0, none⟩) l.length cap] 99 (0, 0)))
    (hg : w.heap[g]? = some (.cells cur 5 (0, 0))) (hnc : l.length ≤ cap) (hcm : cap ≤ maxLen) (hcs : cur.size = cap * 1) (hown : w.ownsRow B 5 1 (.slice (some ⟨g, 0, none⟩) l.length cap) l.length (Lib.byteCells l)) :
    Calls Tryd.prog 64 #[.pointer (some ⟨b, 0, none⟩)] w fun e w' => e = .returned (.string ⟨l.toArray⟩) ∧ Turned fp w w' := by
  have hl0 : l.length ≠ 0 := by simpa using h0
  have mixed : Tryd.prog.follows .mixedOrders = true := by kernel_rfl
  have c1 : w.drew.cell? ⟨b, 1, none⟩ = some (.slice (some ⟨g, 0, none⟩) l.length cap) := by
    have : w.drew.heap[b]? = some (.cells #[p, .slice (some ⟨g, 0, none⟩) l.length cap] 99 (0, 0)) := hbk
    rw [Lib.cell_of_heap this]; rfl
  have hSD : (Builtin.unsafeSliceData_ #[38] 119 #[.slice (some ⟨g, 0, none⟩) l.length cap]).run Tryd.prog w.drew = .ok (.pointer (some ⟨g, 0, none⟩)) w.drew :=
    Lib.run_unsafeSliceData_row _ _ _ _ _ _ (by omega)
  have hUS : (Builtin.unsafeString_ #[119, 3] 9 #[.pointer (some ⟨g, 0, none⟩), .int .i64 l.length]).run Tryd.prog w.drew = .ok (.string ⟨l.toArray⟩) (w.drew.freeze ⟨g, 0, none⟩ l.length) := by
    refine Lib.run_unsafeString_row w.drew 119 3 9 5 Tryd.underlying119 (by kernel_rfl) g cur.size (by have hg' : w.drew.heap[g]? = some (.cells cur 5 (0, 0)) := hg; simp [World.shape?, hg']) l h0 (by omega) (by unfold maxLen at hcm; omega) ?_
    intro j x hx
    have := hown.cells (g := g) rfl j (.int .u8 x.toNat) (by simp [Lib.byteCells, hx])
    exact this
  have hfin : Turned fp w (w.drew.freeze ⟨g, 0, none⟩ l.length) := by
    unfold World.freeze
    split
    · exact ⟨rfl, rfl, rfl, Nat.le_refl _, fun _ _ _ => rfl⟩
    · refine ⟨rfl, rfl, rfl, by simp, fun k hk hf => ?_⟩
      have hkg : g ≠ k := fun e => hf (e ▸ hfg)
      simp only [Array.getElem?_modify]
      rw [if_neg hkg]
      rfl
  go_enter Tryd.func64, Tryd.ntmps64
  go_wp2
  go_region_o
  all_goals (go_wp2; go_ret; exact ⟨rfl, hfin⟩)
theorem st_calls (B b : Nat) (fp F : Nat → Prop) (s : ByteArray) (w : World) (h : OIs 0 s B b fp F w) :
    Calls Tryd.prog 64 #[.pointer (some ⟨b, 0, none⟩)] w fun e w' => e = .returned (.string s) ∧ Turned fp w w' := by
  obtain ⟨hB, hfb, p, v, hp, hbk, hown, hne, hvf⟩ := h
  obtain ⟨l, rfl⟩ : ∃ l : List UInt8, s = ⟨l.toArray⟩ := ⟨s.data.toList, by cases s; simp⟩
  have e : Lib.strCells ⟨l.toArray⟩ = Lib.byteCells l := by simp [Lib.strCells, Lib.byteCells]
  change w.ownsRow B 5 1 v (Lib.strCells ⟨l.toArray⟩).length (Lib.strCells ⟨l.toArray⟩) at hown
  rw [e, Lib.byteCells_length] at hown
  rcases hown.2 with ⟨rfl, hz⟩ | ⟨g, cap, cur, rfl, hbg, hg, hnc, hcm, hcs, htake⟩
  · obtain rfl := List.length_eq_zero_iff.1 hz
    exact st_nil b fp p w hbk
  · cases l with
    | nil =>
      by_cases hc0 : cap = 0
      · subst hc0; exact st_noroom b g fp p cur w hbk hg
      · exact st_room b g cap fp p w hc0 hbk
    | cons x r => exact st_some B b g cap fp (hvf g rfl) p cur (x :: r) (by simp) w hbk hg hnc hcm hcs hown
/-! ### in the executor -/
def tupV (gs : List Nat) : Value := .tuple (gs.map fun k : Nat => Value.int .i64 (k : Int)).toArray
theorem fpV_tupV (gs : List Nat) : fpV (tupV gs) = fun k => k ∈ gs := by
  funext k
  apply propext
  simp only [fpV, tupV, List.mem_map]
  constructor
  · rintro ⟨q, hq, he⟩
    cases he
    exact hq
  · intro h
    exact ⟨k, h, rfl⟩
section
variable {P : Program} {w0 : Org} {w w' : World} {N : Nat} {S : AS} {o : Oper} {ρ : Type} {r : ρ} {id0 : Nat} {m : Nm}
/-- An object that is turned. -/
theorem Heap.objStep (h : Heap w0 m S.σ w) (hf : Fresh id0 S) {i j n : Nat} {x x' : OT n} (hσ : S.σ i = .obj n x j) (hT : Turned (fpV (m.v j)) w w') (gs : List Nat) (hg : ∀ k ∈ gs, fpV (m.v j) k ∨ w.heap.size ≤ k ∧ k < w'.heap.size) (hO : OIs n x' w0.heap.size (m.b i) (fun k => k ∈ gs) m.F w') :
    ∃ m', Grows (old id0) m m' w w' ∧ Heap w0 m' (updσ S.σ [(i, .obj n x' id0)]) w' := by
  have hb := h.blk i
  rw [hσ] at hb
  obtain ⟨b1, b2⟩ := hb
  let m' : Nm := ⟨setAt m.v id0 (tupV gs), m.b, m.F⟩
  have hG : Grows (old id0) m m' w w' := ⟨fun q hq => setAt_ne (old_ne (k := 0) (by decide) hq), fun _ _ => rfl, fun k hk => ⟨hk, hT.block k (h.flt k hk) (fun hf => (b1 k hf).2.2 hk)⟩⟩
  have hs := hT.size
  have hbs : w0.heap.size ≤ w.heap.size := h.below.size
  have hown : ∀ k, fpV (m.v j) k → blkOf m i (S.σ i) k := fun k hk => by rw [hσ]; exact hk
  refine ⟨m', hG, Heap.step (fun q => q = i) h hG hf.σ (fun q hq => ⟨by rw [updσ_one, if_neg hq], hf.p q⟩) (fun q k hq hk => ⟨hT.block k (blk_lt h hk).1 (fun hf => h.apart q i k hq hk (hown k hf)), (blk_lt h hk).2.1⟩) (fun q hq => ?_) (fun q l k hql hq h1 h2 => ?_) (fun k hk => Nat.lt_of_lt_of_le (h.flt k hk) hs) ⟨hT.os.trans h.below.os, hT.tape.trans h.below.tape, hT.output.trans h.below.output, Nat.le_trans h.below.size hs, fun k hk => (hT.block k (by omega) (fun hf => by have := (b1 k hf).1; omega)).trans (h.below.block k hk)⟩⟩
  · subst hq
    rw [updσ_one, if_pos rfl]
    have e : fpV (m'.v id0) = fun k => k ∈ gs := by
      show fpV (setAt m.v id0 (tupV gs) id0) = _
      rw [setAt_self, fpV_tupV]
    refine ⟨fun k hk => ?_, by rw [e]; exact hO⟩
    rw [e] at hk
    rcases hg k hk with hk | ⟨h1, h2⟩
    · obtain ⟨c1, c2, c3⟩ := b1 k hk
      exact ⟨c1, by omega, c3⟩
    · exact ⟨by omega, h2, fun hF => by have := h.flt k hF; omega⟩
  · subst hq
    rw [updσ_one, if_pos rfl] at h1
    rw [updσ_one, if_neg (Ne.symm hql), blkOf.same hG (hf.σ l) (hf.p l)] at h2
    have h1' : fpV (m'.v id0) k := h1
    rw [show m'.v id0 = tupV gs from setAt_self _ _ _, fpV_tupV] at h1'
    rcases hg k h1' with hk | ⟨h3, _⟩
    · exact h.apart q l k hql (hown k hk) h2
    · have := (blk_lt h h2).1; omega
/-- An object that is let go of. -/
theorem Heap.objDrop (h : Heap w0 m S.σ w) (hf : Fresh id0 S) {i j n : Nat} {x : OT n} (hσ : S.σ i = .obj n x j) (hT : Turned (fpV (m.v j)) w w') :
    Grows (old id0) m m w w' ∧ Heap w0 m (updσ S.σ [(i, .no)]) w' := by
  have hb := h.blk i
  rw [hσ] at hb
  obtain ⟨b1, b2⟩ := hb
  have hG : Grows (old id0) m m w w' := ⟨fun _ _ => rfl, fun _ _ => rfl, fun k hk => ⟨hk, hT.block k (h.flt k hk) (fun hf => (b1 k hf).2.2 hk)⟩⟩
  have hs := hT.size
  have hbs : w0.heap.size ≤ w.heap.size := h.below.size
  have hown : ∀ k, fpV (m.v j) k → blkOf m i (S.σ i) k := fun k hk => by rw [hσ]; exact hk
  refine ⟨hG, Heap.step (fun q => q = i) h hG hf.σ (fun q hq => ⟨by rw [updσ_one, if_neg hq], hf.p q⟩) (fun q k hq hk => ⟨hT.block k (blk_lt h hk).1 (fun hf => h.apart q i k hq hk (hown k hf)), (blk_lt h hk).2.1⟩) (fun q hq => ?_) (fun q l k hql hq h1 h2 => ?_) (fun k hk => Nat.lt_of_lt_of_le (h.flt k hk) hs) ⟨hT.os.trans h.below.os, hT.tape.trans h.below.tape, hT.output.trans h.below.output, Nat.le_trans h.below.size hs, fun k hk => (hT.block k (by omega) (fun hf => by have := (b1 k hf).1; omega)).trans (h.below.block k hk)⟩⟩
  · subst hq
    rw [updσ_one, if_pos rfl]
    trivial
  · subst hq
    rw [updσ_one, if_pos rfl] at h1
    exact h1.elim
/-- An object that is laid. -/
theorem Heap.objNew (h : Heap w0 m S.σ w) (hf : Fresh id0 S) {n : Nat} {x : OT n} {ob : Obj} (hO : OIs n x w0.heap.size w.heap.size (fun k => k ∈ [w.heap.size]) m.F (w.alloc ob)) :
    ∃ m', Grows (old id0) m m' w (w.alloc ob) ∧ Heap w0 m' (updσ S.σ [(id0, .obj n x (id0 + 1))]) (w.alloc ob) ∧ m'.b id0 = w.heap.size := by
  let m' : Nm := ⟨setAt m.v (id0 + 1) (tupV [w.heap.size]), setAt m.b id0 w.heap.size, m.F⟩
  have hold : ∀ k, k < w.heap.size → (w.alloc ob).heap[k]? = w.heap[k]? := fun k hk => Below.heap_alloc w _ k hk
  have hG : Grows (old id0) m m' w (w.alloc ob) := ⟨fun q hq => setAt_ne (old_ne (k := 1) (by decide) hq), fun q hq => setAt_ne (old_ne (k := 0) (by decide) hq), fun k hk => ⟨hk, hold k (h.flt k hk)⟩⟩
  have hsz : (w.alloc ob).heap.size = w.heap.size + 1 := by show (w.heap.push ob).size = _; rw [Array.size_push]
  have hbs : w0.heap.size ≤ w.heap.size := h.below.size
  have e : fpV (m'.v (id0 + 1)) = fun k => k ∈ [w.heap.size] := by
    show fpV (setAt m.v (id0 + 1) (tupV [w.heap.size]) (id0 + 1)) = _
    rw [setAt_self, fpV_tupV]
  refine ⟨m', hG, Heap.step (fun q => q = id0) h hG hf.σ (fun q hq => ⟨by rw [updσ_one, if_neg hq], hf.p q⟩) (fun q k hq hk => ⟨hold k (blk_lt h hk).1, (blk_lt h hk).2.1⟩) (fun q hq => ?_) (fun q l k hql hq h1 h2 => ?_) (fun k hk => by rw [hsz]; exact Nat.lt_succ_of_lt (h.flt k hk)) (h.below.alloc hbs _), setAt_self _ _ _⟩
  · subst hq
    rw [updσ_one, if_pos rfl]
    refine ⟨fun k hk => ?_, by rw [e, show m'.b q = w.heap.size from setAt_self _ _ _]; exact hO⟩
    rw [e] at hk
    obtain rfl : k = w.heap.size := by simpa using hk
    exact ⟨hbs, by omega, fun hF => by have := h.flt _ hF; omega⟩
  · subst hq
    rw [updσ_one, if_pos rfl] at h1
    rw [updσ_one, if_neg (Ne.symm hql), blkOf.same hG (hf.σ l) (hf.p l)] at h2
    have h1' : fpV (m'.v (q + 1)) k := h1
    rw [e] at h1'
    obtain rfl : k = w.heap.size := by simpa using h1'
    have := (blk_lt h h2).1
    omega
theorem run_call {x : Operand} {args : Array Operand} {ts : Array TypeId} {f : FuncId} {a : Act} (ho : o.op = .call ⟨.value x, args, ts⟩) (hx : a.eval x = .func (.func f) #[] #[]) (hen : ∀ (args : Array Value) (w : World), (callFunc f args).run P w = .ok (.enter f args) w) : (execOp a.eval o).run P w = .ok (.enter f (args.map a.eval)) w := by
  have he := hen (args.map a.eval) w
  unfold execOp
  simp [ho, resolve, Deferred.ofValue, invoke, hx]
  simpa using he
theorem ev_fn {m : Nm} {a : Act} {x : Operand} {f : Nat} (hr : Rep w0 N m S a w) (h : S.ev x = .fn f []) : a.eval x = .func (.func f) #[] #[] := by
  have h1 := hr.ev x
  rw [h] at h1
  generalize a.eval x = z at h1
  cases h1 with | fn h1 =>
  cases h1
  rfl
end
section
variable {w0 : Org} {w : World} {N : Nat} {S : AS} {o : Oper} {ρ : Type} {r : ρ} {id0 : Nat}
def bldOn (S : AS) (o : Oper) : Bool := match o.op with
  | .alloc T => Nat.beq T 99
  | .call ⟨.value x, _, _⟩ => match S.ev x with
    | .fn f _ => Nat.beq f 62 || Nat.beq f 64
    | _ => false
  | _ => false
def asBld (S : AS) (x : PV) : Option (Nat × ByteArray) := match x with
  | .ptr i off => match S.σ i with
    | .obj n s _ => bif Nat.beq off 0 then match asObj n 0 s with
        | some s => some (i, s)
        | none => none
      else none
    | _ => none
  | _ => none
def bldRun (S : AS) (id0 : Nat) (o : Oper) (κ : Eff → Option ρ) : Option ρ := match o.op with
  | .alloc T => bif Nat.beq T 99 then κ ⟨.ptr id0 0, [(id0, .obj 0 (⟨#[]⟩ : ByteArray) (id0 + 1))]⟩ else none
  | .call ⟨.value x, args, _⟩ => match S.ev x, args.toList with
    | .fn f [], [y, z] => bif Nat.beq f 62 then match asBld S (S.ev y), S.ev z with
        | some (i, s), .v (.string t) => bif decide (s.size + t.size ≤ 140737488355328) then κ ⟨.un, [(i, .obj 0 (s ++ t) id0)]⟩ else none
        | _, _ => none
      else none
    | .fn f [], [y] => bif Nat.beq f 64 then match asBld S (S.ev y) with
        | some (i, s) => κ ⟨.v (.string s), [(i, .no)]⟩
        | none => none
      else none
    | _, _ => none
  | _ => none
theorem asBld_ok {x : PV} {i : Nat} {s : ByteArray} (h : asBld S x = some (i, s)) : x = .ptr i 0 ∧ ∃ j, S.σ i = .obj 0 s j := by
  unfold asBld at h
  split at h
  · rename_i i off
    split at h
    · rename_i n s' j hσ
      rcases cond_some h with ⟨h0, hh⟩ | ⟨_, h2⟩
      · have := Nat.eq_of_beq_eq_true h0
        subst this
        split at hh
        · rename_i s2 hs
          cases hh
          obtain ⟨rfl, rfl⟩ := asObj_some hs
          exact ⟨rfl, j, hσ⟩
        · cases hh
      · cases h2
    · cases h
  · cases h
theorem bld_ok {κ : Eff → Option ρ} (h : bldRun S id0 o κ = some r) : Sound Tryd.prog w0 N S id0 o κ r := by
  unfold bldRun at h
  split at h
  · rename_i T ho
    rcases cond_some h with ⟨hT, hh⟩ | ⟨_, h2⟩
    · have := Nat.eq_of_beq_eq_true hT
      subst this
      refine ⟨_, hh, ?_⟩
      intro S' m a w hl hf hr K Q hK
      have hbs : w0.heap.size ≤ w.heap.size := hr.heap.below.size
      obtain ⟨m', hg, hH, hb⟩ := Heap.objNew (n := 0) (x := (⟨#[]⟩ : ByteArray)) (ob := .cells #[.pointer none, .slice none 0 0] 99) hr.heap hf
        ⟨hbs, by simp, .pointer none, .slice none 0 0, .inl rfl, by show (w.heap.push _)[w.heap.size]? = _; exact Array.getElem?_push_size, World.ownsRow_nil _ _ _ _, by simp [Value.ownBlock], fun k hk => by simp [Value.ownBlock] at hk⟩
      have hrun : (execOp a.eval o).run Tryd.prog w = .ok (.value (.pointer (some ⟨w.heap.size, 0, none⟩))) (w.alloc (.cells #[.pointer none, .slice none 0 0] 99)) := by
        have hz : ∀ W : World, (zeroValue 99).run Tryd.prog W = .ok (.agg #[.pointer none, .slice none 0 0]) W := fun W => zeroB_ok (by kernel_rfl) W
        refine run_of_w (s := Instr.alloc 99 true (.tuple #[])) (by unfold execOp; simp only [ho]) ?_
        simp only [Instr.alloc, Sem.run_bind, hz, Result.andThen_ok]
        rfl
      unfold Oper.wp
      rw [hrun, Oper.upon_value]
      exact hK m' _ _ hg hH (hb ▸ .ptr)
    · cases h2
  · rename_i x args ts ho
    split at h
    · rename_i f y z hx hargs
      have hl : args = #[y, z] := by apply Array.ext'; simpa using hargs
      subst hl
      rcases cond_some h with ⟨hf, hh⟩ | ⟨_, h2⟩
      · have := Nat.eq_of_beq_eq_true hf
        subst this
        split at hh
        · rename_i i s t hy hz
          rcases cond_some hh with ⟨hd, hk⟩ | ⟨_, h2⟩
          · refine ⟨_, hk, ?_⟩
            intro S' m a w hl hf hr K Q hK
            obtain ⟨hyp, j, hσ⟩ := asBld_ok hy
            have hr0 := hr.le hl
            have hσ' : S'.σ i = .obj 0 s j := by
              rcases hl.σ i with h1 | h1
              · rw [h1] at hσ; cases hσ
              · rw [h1, hσ]
            have hb := hr.heap.blk i
            rw [hσ'] at hb
            obtain ⟨b1, b2⟩ := hb
            have hyv := hr0.ev y
            rw [hyp] at hyv
            generalize hyz : a.eval y = yv at hyv
            cases hyv
            have hrun := run_call (P := Tryd.prog) (w := w) ho (ev_fn hr0 hx) (fun _ _ => by kernel_rfl)
            unfold Oper.wp
            rw [hrun, Oper.upon_enter]
            have hc := ws_calls w0.heap.size (m.b i) (fpV (m.v j)) m.F s t w b2 (of_decide_eq_true hd) hr.heap.below.size
            have hav : (#[y, z] : Array Operand).map a.eval = #[.pointer (some ⟨m.b i, 0, none⟩), .string t] := by simp [hyz, ev_v hr0 hz]
            rw [hav]
            refine hc.mono fun e w' hh => ?_
            obtain ⟨⟨v, rfl⟩, hT, g, hg, hO⟩ := hh
            have hfb : fpV (m.v j) (m.b i) := b2.2.1
            obtain ⟨m', hG, hH⟩ := Heap.objStep (n := 0) (x := s) (x' := (s ++ t : ByteArray)) hr.heap hf hσ' hT [m.b i, g] (fun k hk => by
              simp only [List.mem_cons, List.not_mem_nil, or_false] at hk
              rcases hk with rfl | rfl
              · exact .inl hfb
              · exact hg) (by simpa using hO)
            exact hK m' w' v hG hH .un
          · cases h2
        · cases hh
      · cases h2
    · rename_i f y hx hargs
      have hl : args = #[y] := by apply Array.ext'; simpa using hargs
      subst hl
      rcases cond_some h with ⟨hf, hh⟩ | ⟨_, h2⟩
      · have := Nat.eq_of_beq_eq_true hf
        subst this
        split at hh
        · rename_i i s hy
          refine ⟨_, hh, ?_⟩
          intro S' m a w hl hf hr K Q hK
          obtain ⟨hyp, j, hσ⟩ := asBld_ok hy
          have hr0 := hr.le hl
          have hσ' : S'.σ i = .obj 0 s j := by
            rcases hl.σ i with h1 | h1
            · rw [h1] at hσ; cases hσ
            · rw [h1, hσ]
          have hb := hr.heap.blk i
          rw [hσ'] at hb
          obtain ⟨b1, b2⟩ := hb
          have hyv := hr0.ev y
          rw [hyp] at hyv
          generalize hyz : a.eval y = yv at hyv
          cases hyv
          have hrun := run_call (P := Tryd.prog) (w := w) ho (ev_fn hr0 hx) (fun _ _ => by kernel_rfl)
          unfold Oper.wp
          rw [hrun, Oper.upon_enter]
          have hc := st_calls w0.heap.size (m.b i) (fpV (m.v j)) m.F s w b2
          have hav : (#[y] : Array Operand).map a.eval = #[.pointer (some ⟨m.b i, 0, none⟩)] := by simp [hyz]
          rw [hav]
          refine hc.mono fun e w' hh => ?_
          obtain ⟨rfl, hT⟩ := hh
          obtain ⟨hG, hH⟩ := Heap.objDrop hr.heap hf hσ' hT
          exact hK m w' _ hG hH .v
        · cases hh
      · cases h2
    · cases h
  · cases h
end
def hkBld : Hook Tryd.prog := ⟨bldOn, fun S id0 o κ => bldRun S id0 o κ, fun _ h => bld_ok h⟩
end Go.Proofs.YtaknikdbnfmlfaaDoor.Ex
