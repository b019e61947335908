/- slices.Insert of one kind of rows: its three roads, walked. -/
import Derived.Test.YtggikacbelogcaaGreatExDD
import Derived.Test.YtggikacbelogcaaGreatProg
import Derived.Lib.Walk
import Derived.Lib.SliceRun
import Derived.Lib.AppendZeros
import Derived.Laws.Externs
import Derived.Laws.IdiomCopy
import Derived.Laws.NewBlocks
import Derived.OwnWalk
import Derived.Deep.RegionLaw
import Derived.KernelRfl
namespace Go.Proofs.YtggikacbelogcaaGreat.Ex
open Go Go.RowKit
set_option linter.unusedVariables false
set_option linter.unusedSimpArgs false
section
variable {P : Program}
theorem wp_copy_r (w : World) {o : Oper} {a : Act} {K : Act → World → Prop} {Q : Exit → Act → World → Prop} (d s : Operand) (t t' : TypeId)
    (ho : o.op = .call { callee := .builtin .copy, args := #[d, s], argTypes := #[t, t'] }) (v u : Value) (hd : a.eval d = v) (hs : a.eval s = u) {v' : Value} {w' : World}
    (hr : (Builtin.copy_ #[t, t'] o.type #[v, u]).run P w = .ok v' w') (h : K (a.put o.dst v') w') : o.wp P a w K Q := by
  unfold Oper.wp execOp
  simp only [ho, resolve, invoke, builtin, Sem.run_bind, Sem.run_pure, Result.andThen_ok, List.map_toArray, List.map_cons, List.map_nil, hd, hs, hr]
  exact h
theorem wpList_copy_r (w : World) {ops : Array Oper} {rest : List Oper} {o : Oper} {a : Act} {Q : Exit → Act → World → Prop} (hgd : o.guard = none) (d s : Operand) (t t' : TypeId)
    (ho : o.op = .call { callee := .builtin .copy, args := #[d, s], argTypes := #[t, t'] }) (v u : Value) (hd : a.eval d = v) (hs : a.eval s = u) {v' : Value} {w' : World}
    (hr : (Builtin.copy_ #[t, t'] o.type #[v, u]).run P w = .ok v' w') (h : wpList P ops Q rest (a.put o.dst v') w') : wpList P ops Q (o :: rest) a w :=
  wpList_plain hgd fun _ hK => wp_copy_r w d s t t' ho v u hd hs hr (hK _ _ h)
theorem step_copy_r {ops : Array Oper} {o : Oper} {a : Act} {w : World} {K : Act → World → Prop} {Q : Exit → Act → World → Prop} {E : Prop}
    (hg : o.guard = none) (d x : Operand) (dT sT : TypeId) (hop : o.op = Op.call { callee := Callee.builtin Builtin.copy, args := #[d, x], argTypes := #[dT, sT] })
    (v u : Value) (hd : a.eval d = v) (hx : a.eval x = u) {v' : Value} {w' : World} (hr : (Builtin.copy_ #[dT, sT] o.type #[v, u]).run P w = .ok v' w') (hK : K (a.put o.dst v') w') :
    if Region.wanted o (yielded ops a.tmps) = true then Oper.wp P o a w K Q else E := by
  have hw : Region.wanted o (yielded ops a.tmps) = true := by simp [Region.wanted, hg]
  rw [if_pos hw]
  unfold Oper.wp
  simp [execOp, hop, resolve, invoke, builtin, hd, hx, hr, Result.andThen]
  exact hK
theorem drew_setCells' (b : Nat) : ∀ (vs : List Value) (o : Nat) (w : World), (w.setCells b o vs).drew = w.drew.setCells b o vs
  | [], _, _ => rfl
  | v :: r, o, w => by rw [World.setCells, World.setCells, drew_setCells' b r]; rfl
theorem isSome_setCells' (b : Nat) (vs : List Value) (o : Nat) (w : World) (h : ∀ j, j < vs.length → (w.cell? ⟨b, o + j, none⟩).isSome = true) (k : Nat) (hk : (w.cell? ⟨b, k, none⟩).isSome = true) : ((w.setCells b o vs).cell? ⟨b, k, none⟩).isSome = true := by
  by_cases hin : o ≤ k ∧ k < o + vs.length
  · have := World.cell?_setCells_in b vs o w h (k - o) (by omega)
    rw [show o + (k - o) = k by omega] at this
    rw [this]; rfl
  · rw [World.cell?_setCells_out b vs o w ⟨b, k, none⟩ (fun _ _ => by show k < o ∨ o + vs.length ≤ k; omega)]
    exact hk
theorem setCells_rest (b : Nat) (vs : List Value) (o : Nat) (w : World) : (w.setCells b o vs).os = w.os ∧ (w.setCells b o vs).tape = w.tape ∧ (w.setCells b o vs).output = w.output := by
  have h := below_setCells (B := 0) (b := b) (Nat.zero_le _) vs o w
  exact ⟨h.os, h.tape, h.output⟩
theorem heap_drew (b : Nat) (vs : List Value) (o : Nat) (w : World) : (w.drew.setCells b o vs).heap = (w.setCells b o vs).heap := by rw [← drew_setCells']; rfl
theorem heap_setCells_eq (b : Nat) : ∀ (vs : List Value) (o : Nat) (w w' : World), w'.heap = w.heap → (w'.setCells b o vs).heap = (w.setCells b o vs).heap
  | [], _, _, _, h => h
  | v :: r, o, w, w', h => heap_setCells_eq b r (o + 1) _ _ (by unfold World.setCell; simp only [h])
end
open Tryz
set_option maxHeartbeats 4000000 in
set_option maxRecDepth 100000 in
theorem ins33_shift (b n c i vb voff m vc : Nat) (cs vs : List Value) (w : World) (hi : i < n) (hm : 0 < m) (hroom : n + m ≤ c) (hc63 : c ≤ 9223372036854775807) (hvb : vb ≠ b) (hcl : cs.length = n * 6) (hvl : vs.length = m * 6)
    (hcs : ∀ j v, cs[j]? = some v → w.cell? ⟨b, j, none⟩ = some v) (hsp : ∀ j, j < (n + m) * 6 → (w.cell? ⟨b, j, none⟩).isSome = true) (hfz : ∀ j, w.frozen? ⟨b, j, none⟩ = false)
    (hvs : ∀ j v, vs[j]? = some v → w.cell? ⟨vb, voff + j, none⟩ = some v) (h1c : ∀ v ∈ cs, v.oneCell' = true) (h1v : ∀ v ∈ vs, v.oneCell' = true)
    (hsa : ∃ tA kA, w.shape? vb = some (tA, kA + 1)) (hsb : ∃ tB kB, w.shape? b = some (tB, kB)) :
    Calls Tryz.prog 79 #[.slice (some ⟨b, 0, none⟩) n c, .int .i64 i, .slice (some ⟨vb, voff, none⟩) m vc] w fun e w' =>
      e = .returned (.slice (some ⟨b, 0, none⟩) (n + m) c) ∧ w'.os = w.os ∧ w'.tape = w.tape ∧ w'.output = w.output ∧ w'.heap = ((w.setCells b ((i + m) * 6) (cs.drop (i * 6))).setCells b (i * 6) vs).heap := by
  obtain ⟨tA, kA, hsa⟩ := hsa
  obtain ⟨tB, kB, hsb⟩ := hsb
  have hz1 : ¬ ((m : Int) = 0) := by omega
  have hz2 : ¬ ((i : Int) = (n : Int)) := by omega
  have hsz : sizeB Tryz.prog 33 = some 6 := by kernel_rfl
  have hov : ∀ (o : Nat) lb cb, (callFunc 108 #[.slice (some ⟨vb, voff, none⟩) m vc, .slice (some ⟨b, o, none⟩) lb cb]).run Tryz.prog w = .ok (.value (.bool false)) w := fun o lb cb => by
    rw [run_callFunc_extern Tryz.func108 (by kernel_rfl) (by kernel_rfl) (by kernel_rfl) (e := Extern.SlicesOverlaps.overlaps #[22, 22] #[4]) (by kernel_rfl),
      run_overlaps_own w 22 4 33 Tryz.underlying22 6 (fun w => sizeB_ok hsz w) ⟨vb, voff, none⟩ ⟨b, o, none⟩ m vc lb cb hvb tA tB kA kB hsa hsb (fun o => hfz o) rfl]
    rfl
  have hdl : (cs.drop (i * 6)).length = n * 6 - i * 6 := by rw [List.length_drop, hcl]
  have hw1 : IntKind.i64.wrap ((i : Int) + (m : Int)) = (i : Int) + (m : Int) := by rw [IntKind.wrap_i64]; omega
  have hb1 : (0 : Int) ≤ (i : Int) + (m : Int) := by omega
  have hin : i ≤ n := by omega
  have htn : ((i : Int) + (m : Int)).toNat = i + m := by omega
  have hb2 : ¬ (c = i + m) := by omega
  have hb3 : (i : Int) ≤ (n : Int) + (m : Int) := by omega
  have hb4 : ¬ (c = i) := by omega
  have hmn1 : Nat.min (n + m - i) (n + m - (i + m)) = n - i := by simp only [Nat.min_def]; split <;> omega
  have hmn2 : Nat.min m (n + m - i) = m := by simp only [Nat.min_def]; split <;> omega
  have hcp1 : ∀ ty dc sc, (Builtin.copy_ #[22, 22] ty #[.slice (some ⟨b, (i + m) * 6, none⟩) (n + m - (i + m)) dc, .slice (some ⟨b, i * 6, none⟩) (n + m - i) sc]).run Tryz.prog w.drew = .ok (goInt (n - i : Nat)) (w.drew.setCells b ((i + m) * 6) (cs.drop (i * 6))) := fun ty dc sc => by
    have h := run_copy_n (P := Tryz.prog) (w := w.drew) (dT := 22) (sT := 22) (ty := ty) (elem := 33) (b := b) (o := (i + m) * 6) (dLen := n + m - (i + m)) (dCap := dc) (a := ⟨b, i * 6, none⟩) (sLen := n + m - i) (sCap := sc) (sz := 6) (cs := cs.drop (i * 6)) Tryz.underlying22 hsz (by rw [hdl, hmn1]; omega)
      (fun j v hj => by rw [Addr.add_mid]; exact hcs (i * 6 + j) v (by rwa [List.getElem?_drop] at hj))
      (fun j hj => hsp _ (by rw [hdl] at hj; omega)) (fun j hj => hfz _) (fun v hv => h1c v (List.mem_of_mem_drop hv))
    rw [hmn1] at h
    exact h
  obtain ⟨W1, hW1⟩ : ∃ W1, W1 = w.drew.setCells b ((i + m) * 6) (cs.drop (i * 6)) := ⟨_, rfl⟩
  have hsp1 : ∀ k, k < (n + m) * 6 → (W1.cell? ⟨b, k, none⟩).isSome = true := fun k hk => by
    rw [hW1]
    exact isSome_setCells' b (cs.drop (i * 6)) ((i + m) * 6) w.drew (fun j hj => hsp ((i + m) * 6 + j) (by rw [hdl] at hj; omega)) _ (hsp k hk)
  have hcp2 : ∀ (W : World), (∀ x, W.cell? x = W1.cell? x) → (∀ x, W.frozen? x = W1.frozen? x) → ∀ ty dc, (Builtin.copy_ #[22, 22] ty #[.slice (some ⟨b, i * 6, none⟩) (n + m - i) dc, .slice (some ⟨vb, voff, none⟩) m vc]).run Tryz.prog W = .ok (goInt m) (W.setCells b (i * 6) vs) := fun W hWc hWf ty dc => by
    have h := run_copy_n (P := Tryz.prog) (w := W) (dT := 22) (sT := 22) (ty := ty) (elem := 33) (b := b) (o := i * 6) (dLen := n + m - i) (dCap := dc) (a := ⟨vb, voff, none⟩) (sLen := m) (sCap := vc) (sz := 6) (cs := vs) Tryz.underlying22 hsz (by rw [hvl, hmn2])
      (fun j v hj => by
        rw [Addr.add_mid, hWc, hW1, World.cell?_setCells_out b _ _ _ _ (fun h _ => absurd h hvb)]
        exact hvs j v hj)
      (fun j hj => by rw [hWc]; exact hsp1 _ (by omega)) (fun j hj => by rw [hWf, hW1, World.frozen?_setCells]; exact hfz _) h1v
    rw [hmn2] at h
    exact h
  rw [← hW1] at hcp1
  go_enter Tryz.func79, Tryz.ntmps79
  go_wp2_with (simp only [hov])
  go_region_law (refine step_copy_r rfl _ _ 22 22 rfl _ _ (by simp [Act.eval, Act.put]) (by simp [Act.eval, Act.put]) (hcp1 _ _ _) ?_)
  go_wp2_with (at_builtin; refine wpList_copy_r _ rfl _ _ 22 22 rfl _ _ rfl rfl (hcp2 _ (fun _ => rfl) (fun _ => rfl) _ _) ?_)
  go_ret
  have r1 := setCells_rest b vs (i * 6) (w.drew.setCells b ((i + m) * 6) (cs.drop (i * 6)))
  have r2 := setCells_rest b (cs.drop (i * 6)) ((i + m) * 6) w.drew
  refine ⟨rfl, ?_⟩
  exact ⟨r1.1.trans r2.1, r1.2.1.trans r2.2.1, r1.2.2.trans r2.2.2, heap_setCells_eq b vs (i * 6) _ _ (heap_drew b _ _ w)⟩
set_option maxHeartbeats 4000000 in
set_option maxRecDepth 100000 in
theorem ins33_grow (b n c i vb voff m vc : Nat) (cs vs : List Value) (w : World) (hi : i < n) (hm : 0 < m) (hnc : n ≤ c) (hroom : c < n + m) (hbig : (n + m) * 48 ≤ 140737488355328) (hcl : cs.length = n * 6) (hvl : vs.length = m * 6)
    (hcs : ∀ j v, cs[j]? = some v → w.cell? ⟨b, j, none⟩ = some v) (hvs : ∀ j v, vs[j]? = some v → w.cell? ⟨vb, voff + j, none⟩ = some v) (h1c : ∀ v ∈ cs, v.oneCell' = true) (h1v : ∀ v ∈ vs, v.oneCell' = true) :
    Calls Tryz.prog 79 #[.slice (some ⟨b, 0, none⟩) n c, .int .i64 i, .slice (some ⟨vb, voff, none⟩) m vc] w fun e w' =>
      ∃ G ROW, e = .returned (.slice (some ⟨w.heap.size, 0, none⟩) (n + m) G) ∧ n + m ≤ G ∧ G ≤ maxLen ∧ ROW.size = G * 6 ∧ ROW.toList.take (i * 6) = cs.take (i * 6) ∧
      w'.os = w.os ∧ w'.tape = w.tape ∧ w'.output = w.output ∧ w'.heap = (((w.alloc (.cells ROW 33)).setCells w.heap.size (i * 6) vs).setCells w.heap.size ((i + m) * 6) (cs.drop (i * 6))).heap := by
  obtain ⟨i0, hi0, hz0, hzs, hzb⟩ := info_parts (P := Tryz.prog) (e := 33) (z := .agg #[.int .i64 0, .int .i64 0, .int .i64 0, .int .i64 0, .int .i64 0, .int .i64 0]) (size := 6) (bytes := 48) (by kernel_rfl)
  have hz1 : ¬ ((m : Int) = 0) := by omega
  have hz2 : ¬ ((i : Int) = (n : Int)) := by omega
  have hz3 : (c : Int) < (n : Int) + (m : Int) := by omega
  have hsz : sizeB Tryz.prog 33 = some 6 := by kernel_rfl
  have hbw : b < w.heap.size := block_lt_of_cell (hcs 0 _ (List.getElem?_eq_getElem (by omega)))
  have hvw : vb < w.heap.size := block_lt_of_cell (hvs 0 _ (List.getElem?_eq_getElem (by omega)))
  have hkk : (n : Int) + (m : Int) - (i : Int) = ((n + m - i : Nat) : Int) := by omega
  have hik : i + (n + m - i) = n + m := by omega
  have hold : (Builtin.firstCells i0.size i (.slice (some ⟨b, 0, none⟩) i c)).run Tryz.prog w.drew = .ok (cs.take (i * 6)).toArray w.drew := by
    rw [hzs]
    exact run_firstCells_some w.drew 6 i ⟨b, 0, none⟩ i c (cs.take (i * 6)) (by rw [List.length_take]; omega) (fun j v hj => by
      rw [Addr.add_mid, Nat.zero_add]
      rw [List.getElem?_take] at hj
      split at hj
      · exact hcs j v hj
      · cases hj)
  have hrz : ∀ ty, (Builtin.append_ #[22, 3] ty #[.slice (some ⟨b, 0, none⟩) i c, .int .i64 ((n : Int) + (m : Int) - (i : Int))]).run Tryz.prog w =
      .ok (.slice (some ⟨w.heap.size, 0, none⟩) (n + m) (grownCap w (n + m) c 33)) (w.drew.alloc (.cells ((cs.take (i * 6)).toArray ++ Builtin.zeroCells (Value.agg #[.int .i64 0, .int .i64 0, .int .i64 0, .int .i64 0, .int .i64 0, .int .i64 0]).cells (n + m - i) ++ Builtin.zeroCells (Value.agg #[.int .i64 0, .int .i64 0, .int .i64 0, .int .i64 0, .int .i64 0, .int .i64 0]).cells (grownCap w (n + m) c 33 - (n + m))) 33)) := fun ty => by
    have h := Lib.run_append_grow_zeros w 22 3 ty 33 i0 _ .i64 .i64 Tryz.underlying22 Tryz.underlying3 hi0 hz0 (some ⟨b, 0, none⟩) i c (cs.take (i * 6)) hold (n + m - i) (by omega) (by omega) (by omega) (by omega) (by rw [hzb]; omega) (by rw [hzb, hik]; exact growslice_fits hroom hbig)
    rw [hik] at h
    rw [hkk]
    exact h
  obtain ⟨G, hG⟩ : ∃ G, G = grownCap w (n + m) c 33 := ⟨_, rfl⟩
  obtain ⟨ROW, hROW⟩ : ∃ ROW : Array Value, ROW = (cs.take (i * 6)).toArray ++ Builtin.zeroCells (Value.agg #[.int .i64 0, .int .i64 0, .int .i64 0, .int .i64 0, .int .i64 0, .int .i64 0]).cells (n + m - i) ++ Builtin.zeroCells (Value.agg #[.int .i64 0, .int .i64 0, .int .i64 0, .int .i64 0, .int .i64 0, .int .i64 0]).cells (G - (n + m)) := ⟨_, rfl⟩
  rw [← hG] at hrz
  rw [← hROW] at hrz
  have hGn : n + m ≤ G := by rw [hG]; exact grownCap_ge w _ _ _
  have hGm : G ≤ maxLen := by rw [hG]; exact grownCap_le_maxLen w (n + m) c 33 (by unfold maxLen; omega)
  have hG63 : G ≤ 9223372036854775807 := by unfold maxLen at hGm; omega
  have hRs : ROW.size = G * 6 := by
    rw [hROW]
    simp [Builtin.zeroCells, Value.cells, hcl]
    omega
  have hRt : ROW.toList.take (i * 6) = cs.take (i * 6) := by
    rw [hROW]
    simp only [Array.toList_append, List.append_assoc]
    rw [List.take_append_of_le_length (by simp [hcl]; omega)]
    simp [List.take_take]
  obtain ⟨W1, hW1⟩ : ∃ W1, W1 = w.drew.alloc (.cells ROW 33) := ⟨_, rfl⟩
  rw [← hW1] at hrz
  have hN : ∀ j, j < (n + m) * 6 → (W1.cell? ⟨w.heap.size, j, none⟩).isSome = true := fun j hj => by
    rw [hW1, World.cell?_alloc_at (w := w.drew) ROW _ w.heap.size j rfl, Array.getElem?_eq_getElem (by omega)]; rfl
  have hNf : ∀ j, W1.frozen? ⟨w.heap.size, j, none⟩ = false := fun j => by rw [hW1]; exact World.frozen?_alloc_at (w := w.drew) ROW _ w.heap.size j rfl
  have hOb : ∀ j v, w.cell? ⟨b, j, none⟩ = some v → W1.cell? ⟨b, j, none⟩ = some v := fun j v h => by rw [hW1, World.cell?_alloc_past (w := w.drew) _ b j hbw]; exact h
  have hOv : ∀ j v, w.cell? ⟨vb, j, none⟩ = some v → W1.cell? ⟨vb, j, none⟩ = some v := fun j v h => by rw [hW1, World.cell?_alloc_past (w := w.drew) _ vb j hvw]; exact h
  have hmn1 : Nat.min m (n + m - i) = m := by simp only [Nat.min_def]; split <;> omega
  have hmn2 : Nat.min (n - i) (n + m - (i + m)) = n - i := by simp only [Nat.min_def]; split <;> omega
  have hcpA : ∀ (W : World), (∀ x, W.cell? x = W1.cell? x) → (∀ x, W.frozen? x = W1.frozen? x) → ∀ ty dc, (Builtin.copy_ #[22, 22] ty #[.slice (some ⟨w.heap.size, i * 6, none⟩) (n + m - i) dc, .slice (some ⟨vb, voff, none⟩) m vc]).run Tryz.prog W = .ok (goInt m) (W.setCells w.heap.size (i * 6) vs) := fun W hWc hWf ty dc => by
    have h := run_copy_n (P := Tryz.prog) (w := W) (dT := 22) (sT := 22) (ty := ty) (elem := 33) (b := w.heap.size) (o := i * 6) (dLen := n + m - i) (dCap := dc) (a := ⟨vb, voff, none⟩) (sLen := m) (sCap := vc) (sz := 6) (cs := vs) Tryz.underlying22 hsz (by rw [hvl, hmn1])
      (fun j v hj => by rw [Addr.add_mid, hWc]; exact hOv _ v (hvs j v hj))
      (fun j hj => by rw [hWc]; exact hN _ (by omega)) (fun j hj => by rw [hWf]; exact hNf _) h1v
    rw [hmn1] at h
    exact h
  have hGi : ¬ (G = i) := by omega
  have hGim : ¬ (G = i + m) := by omega
  have hci : ¬ (c = i) := by omega
  have hbN : b ≠ w.heap.size := by omega
  have hdl : (cs.drop (i * 6)).length = n * 6 - i * 6 := by rw [List.length_drop, hcl]
  have hcpB : ∀ (W : World), (∀ x, W.cell? x = (W1.setCells w.heap.size (i * 6) vs).cell? x) → (∀ x, W.frozen? x = (W1.setCells w.heap.size (i * 6) vs).frozen? x) → ∀ ty dc sc, (Builtin.copy_ #[22, 22] ty #[.slice (some ⟨w.heap.size, (i + m) * 6, none⟩) (n + m - (i + m)) dc, .slice (some ⟨b, i * 6, none⟩) (n - i) sc]).run Tryz.prog W = .ok (goInt (n - i : Nat)) (W.setCells w.heap.size ((i + m) * 6) (cs.drop (i * 6))) := fun W hWc hWf ty dc sc => by
    have h := run_copy_n (P := Tryz.prog) (w := W) (dT := 22) (sT := 22) (ty := ty) (elem := 33) (b := w.heap.size) (o := (i + m) * 6) (dLen := n + m - (i + m)) (dCap := dc) (a := ⟨b, i * 6, none⟩) (sLen := n - i) (sCap := sc) (sz := 6) (cs := cs.drop (i * 6)) Tryz.underlying22 hsz (by rw [hdl, hmn2]; omega)
      (fun j v hj => by
        rw [Addr.add_mid, hWc, World.cell?_setCells_out _ _ _ _ _ (fun h _ => absurd h hbN)]
        exact hOb _ v (hcs (i * 6 + j) v (by rwa [List.getElem?_drop] at hj)))
      (fun j hj => by rw [hWc]; exact isSome_setCells' _ vs (i * 6) _ (fun t ht => hN _ (by omega)) _ (hN _ (by rw [hdl] at hj; omega)))
      (fun j hj => by rw [hWf, World.frozen?_setCells]; exact hNf _) (fun v hv => h1c v (List.mem_of_mem_drop hv))
    rw [hmn2] at h
    exact h
  subst hW1
  have hE1 : ∀ x, ((w.alloc (.cells ROW 33)).drew).cell? x = (w.drew.alloc (.cells ROW 33)).cell? x := fun x => rfl
  have hE2 : ∀ x, ((w.alloc (.cells ROW 33)).drew).frozen? x = (w.drew.alloc (.cells ROW 33)).frozen? x := fun x => rfl
  have hF1 : ∀ x, (((w.alloc (.cells ROW 33)).drew.setCells w.heap.size (i * 6) vs).drew).cell? x = ((w.drew.alloc (.cells ROW 33)).setCells w.heap.size (i * 6) vs).cell? x := fun x => rfl
  have hF2 : ∀ x, (((w.alloc (.cells ROW 33)).drew.setCells w.heap.size (i * 6) vs).drew).frozen? x = ((w.drew.alloc (.cells ROW 33)).setCells w.heap.size (i * 6) vs).frozen? x := fun x => rfl
  have hw1 : IntKind.i64.wrap ((i : Int) + (m : Int)) = (i : Int) + (m : Int) := by rw [IntKind.wrap_i64]; omega
  have hb1 : (0 : Int) ≤ (i : Int) + (m : Int) := by omega
  have hin : i ≤ n := by omega
  have htn : ((i : Int) + (m : Int)).toNat = i + m := by omega
  have hb3 : (i : Int) ≤ (n : Int) := by omega
  clear hkk hik hold hROW hG
  go_enter Tryz.func79, Tryz.ntmps79
  go_wp2_with (first
    | (at_builtin; refine Lib.wpList_append_run _ rfl _ _ _ _ rfl _ _ rfl rfl _ _ (hrz _) ?_)
    | (at_builtin; refine wpList_copy_r _ rfl _ _ 22 22 rfl _ _ rfl rfl (hcpA _ hE1 hE2 _ _) ?_))
  go_region_law (refine step_copy_r rfl _ _ 22 22 rfl (.slice (some ⟨w.heap.size, (i + m) * 6, none⟩) (n + m - (i + m)) (G - (i + m))) (.slice (some ⟨b, i * 6, none⟩) (n - i) (c - i)) (by simp [Act.eval, Act.put]) (by simp [Act.eval, Act.put]) (hcpB _ hF1 hF2 3 (G - (i + m)) (c - i)) ?_)
  go_wp2
  go_ret
  have r1 := setCells_rest w.heap.size (cs.drop (i * 6)) ((i + m) * 6) ((w.alloc (.cells ROW 33)).drew.setCells w.heap.size (i * 6) vs).drew
  have r2 := setCells_rest w.heap.size vs (i * 6) (w.alloc (.cells ROW 33)).drew
  exact ⟨G, ROW, rfl, hGn, hGm, hRs, hRt, r1.1.trans r2.1, r1.2.1.trans r2.2.1, r1.2.2.trans r2.2.2, heap_setCells_eq w.heap.size _ _ _ _ (heap_drew w.heap.size _ _ (w.alloc (.cells ROW 33)))⟩
noncomputable def ins33_c : Code := Tryz.f79.body.getD .skip
noncomputable def ins33_X : Cx Tryz.prog [.one (.row 33 [.int .i64, .int .i64, .int .i64, .int .i64, .int .i64, .int .i64])] := ⟨fun _ => ⟨[], [], []⟩, Tryz.f79.ntmps, Tryz.f79.results, []⟩
theorem ins33_eq (l : List (Tup [.int .i64, .int .i64, .int .i64, .int .i64, .int .i64, .int .i64])) (x : Int) (vs : List (Tup [.int .i64, .int .i64, .int .i64, .int .i64, .int .i64, .int .i64])) : runM ins33_X 1 ins33_c [.one (.sc (.int .i64)), .one (.row 33 [.int .i64, .int .i64, .int .i64, .int .i64, .int .i64, .int .i64])] l (x, vs) = bif decide (0 ≤ x) then (bif decide (x ≤ Int.ofNat l.length) then (bif decide (Int.ofNat vs.length = 0) then some l else (bif decide (x = Int.ofNat l.length) then (bif decide ((l.length + vs.length) * 48 ≤ 140737488355328) then some (l ++ vs) else none) else none)) else none) else none := by kernel_rfl
/-- slices.Insert of these rows. -/
theorem ins33_mut : MutOk Tryz.prog 79 33 [.int .i64, .int .i64, .int .i64, .int .i64, .int .i64, .int .i64] [.one (.sc (.int .i64)), .one (.row 33 [.int .i64, .int .i64, .int .i64, .int .i64, .int .i64, .int .i64])] false (insF 48) := by
  refine insert_mut (sz := 6) (by decide) ⟨by kernel_rfl, rfl, by decide, ⟨_, mut_of (X := ins33_X) (k := 1) (c := ins33_c) (by kernel_rfl) Tryz.func79 (by kernel_rfl) (by kernel_rfl) (by kernel_rfl) (fun i an c h _ => by simp [ins33_X, getL] at h) (fun _ _ => rfl), fun l vs hv hb => ?_⟩, ins33_shift, ins33_grow⟩
  have h0 : (0 : Int) ≤ Int.ofNat l.length := Int.natCast_nonneg _
  have h1 : ¬ (Int.ofNat vs.length = 0) := by have : Int.ofNat vs.length = (vs.length : Int) := rfl; omega
  refine (ins33_eq l (Int.ofNat l.length) vs).trans ?_
  rw [decide_eq_true h0, decide_eq_true (Int.le_refl (Int.ofNat l.length)), decide_eq_false h1, decide_eq_true (rfl : Int.ofNat l.length = Int.ofNat l.length), decide_eq_true hb]
  rfl
end Go.Proofs.YtggikacbelogcaaGreat.Ex
