/- An executor of translated code on abstract states: slices.Insert, from its three roads. -/
import Derived.Test.YtaknikdbnfmlfaaDoorExAA
import Derived.Lib.AppendZerosOnto
namespace Go.Proofs.YtaknikdbnfmlfaaDoor.Ex
open Go Go.RowKit
set_option linter.unusedVariables false
set_option linter.unusedSimpArgs false
section
variable {P : Program} {s : List SK}
def insF {α : Type} (sz : Nat) (l : List α) (x : Int × List α) : Option (List α) := bif decide (0 ≤ x.1) && (decide (x.1 ≤ Int.ofNat l.length) && (!x.2.isEmpty && decide ((l.length + x.2.length) * sz ≤ 140737488355328))) then some (l.take x.1.toNat ++ (x.2 ++ l.drop x.1.toNat)) else none
theorem insF_some {α : Type} {sz : Nat} {l r : List α} {x : Int × List α} (h : insF sz l x = some r) : ∃ i : Nat, x.1 = i ∧ i ≤ l.length ∧ 0 < x.2.length ∧ (l.length + x.2.length) * sz ≤ 140737488355328 ∧ r = l.take i ++ (x.2 ++ l.drop i) := by
  obtain ⟨i, vs⟩ := x
  unfold insF at h
  rcases cond_some h with ⟨h1, h2⟩ | ⟨_, h2⟩
  · simp only [Bool.and_eq_true, decide_eq_true_eq] at h1
    obtain ⟨h3, h4, h5, h6⟩ := h1
    have h4' : i ≤ (l.length : Int) := h4
    refine ⟨i.toNat, by simp only; omega, by omega, ?_, h6, (Option.some.inj h2).symm⟩
    cases vs with
    | nil => simp at h5
    | cons a b => simp
  · cases h2
theorem run_copy_n {w : World} {dT sT ty elem : TypeId} {b o dLen dCap : Nat} {a : Addr} {sLen sCap sz : Nat} {cs : List Value} (hu : P.underlying dT = some (.slice elem)) (hs : sizeB P elem = some sz) (hn : cs.length = Nat.min sLen dLen * sz)
    (hsrc : ∀ j v, cs[j]? = some v → w.cell? (a.add j) = some v) (hc : ∀ j, j < cs.length → (w.cell? ⟨b, o + j, none⟩).isSome = true) (hf : ∀ j, j < cs.length → w.frozen? ⟨b, o + j, none⟩ = false) (h1 : ∀ v ∈ cs, v.oneCell' = true) :
    (Builtin.copy_ #[dT, sT] ty #[.slice (some ⟨b, o, none⟩) dLen dCap, .slice (some a) sLen sCap]).run P w = .ok (goInt (Nat.min sLen dLen)) (w.setCells b o cs) := by
  have hl := run_loadCells_list (P := P) w a cs hsrc
  have hst := run_storeCells_cells (P := P) b o cs 0 w (by simpa using hc) (by simpa using hf) h1
  simp [Builtin.copy_, run_underlying hu, Builtin.lenOf, Builtin.firstCells, sizeB_ok hs, ← hn, hl, hst]
/-- slices.overlaps, of rows in two blocks, where the second is a row that nobody has frozen. -/
theorem run_overlaps_own (w : World) (tS tR e : TypeId) (ht : P.underlying tS = some (.slice e)) (size : Nat) (hz : ∀ w, (Go.sizeOf e).run P w = .ok size w)
    (a b : Addr) (la ca lb cb : Nat) (hne : a.block ≠ b.block) (tA tB : TypeId) (kA kB : Nat)
    (hsa : w.shape? a.block = some (tA, kA + 1)) (hsb : w.shape? b.block = some (tB, kB)) (hfb : ∀ o, w.frozen? { block := b.block, off := o } = false) (hb : b.spot = none) :
    (Extern.SlicesOverlaps.overlaps #[tS, tS] #[tR] #[.slice (some a) la ca, .slice (some b) lb cb]).run P w = .ok (.bool false) w := by
  have hnb : (a.block != b.block) = true := by simpa using hne
  have hnb' : (a.block == b.block) = false := by simpa using hne
  have hfb' : w.frozen? b = false := by
    have := hfb b.off
    obtain ⟨bb, bo, bs⟩ := b
    simp only at hb
    subst hb
    exact this
  change Sem.run P (α := Value) (do
    let some t := (#[tS, tS] : Array TypeId)[0]? | stuck "slices.overlaps: no parameter types"
    let .slice elem ← underlying t | stuck "slices.overlaps: slice type expected"
    let size ← sizeOf elem
    match (some a : Option Addr), (some b : Option Addr) with
    | some a, some b =>
      if la = 0 ∨ lb = 0 ∨ size = 0 then pure (Value.bool false)
      else if a.block != b.block && (← frozen a) && (← frozen b) then unsupported .addressObserved
      else do
        if a.block != b.block then do
          noView a; noView b
          if ← mayBeOne a b then return Value.bool ((← choose (.extern "sameAddr.stringBytes" 2)) == 1)
        pure (Value.bool (a.block == b.block && a.off < b.off + lb * size && b.off < a.off + la * size))
    | _, _ => pure (Value.bool false)) w = _
  by_cases h0 : la = 0 ∨ lb = 0 ∨ size = 0
  · simp [run_underlying ht, hz, h0]
  · have hfe := hfb kB
    cases hfa : w.frozen? a with
    | true => simp [run_underlying ht, hz, h0, hnb, hnb', frozen, noView, viewAt, mayBeOne, stringish, shape, Sem.run, hsa, hsb, hfa, hfb', hfe]
    | false =>
      cases hfk : w.frozen? { block := a.block, off := kA + 1 } <;> simp [run_underlying ht, hz, h0, hnb, hnb', frozen, noView, viewAt, mayBeOne, stringish, shape, Sem.run, hsa, hsb, hfa, hfb', hfe, hfk]
theorem shape_of_cell {w : World} {b o : Nat} {v : Value} (h : w.cell? ⟨b, o, none⟩ = some v) : ∃ T k, w.shape? b = some (T, k + 1) := by
  simp only [World.cell?] at h
  unfold World.shape?
  split at h
  · rename_i c t f he
    simp only [Option.isSome_none, Bool.false_eq_true, if_false] at h
    have := (Array.getElem?_eq_some_iff.1 h).1
    exact ⟨t, c.size - 1, by simp; omega⟩
  · cases h
/-- The three roads of slices.Insert. -/
structure InsWalk (P : Program) (f : FuncId) (T : TypeId) (s : List SK) (sz bytes : Nat) : Prop where
  flat : s.all flatK = true
  size : s.length = sz
  pos : 0 < sz
  ending : ∃ F : List (Tup s) → Int × List (Tup s) → Option (List (Tup s)), MutOk P f T s [.one (.sc (.int .i64)), .one (.row T s)] false F ∧ ∀ (l vs : List (Tup s)), 0 < vs.length → (l.length + vs.length) * bytes ≤ 140737488355328 → F l (Int.ofNat l.length, vs) = some (l ++ vs)
  shift : ∀ (b n c i vb voff m vc : Nat) (cs vs : List Value) (w : World), i < n → 0 < m → n + m ≤ c → c ≤ 9223372036854775807 → vb ≠ b → cs.length = n * sz → vs.length = m * sz →
    (∀ j v, cs[j]? = some v → w.cell? ⟨b, j, none⟩ = some v) → (∀ j, j < (n + m) * sz → (w.cell? ⟨b, j, none⟩).isSome = true) → (∀ j, w.frozen? ⟨b, j, none⟩ = false) →
    (∀ j v, vs[j]? = some v → w.cell? ⟨vb, voff + j, none⟩ = some v) → (∀ v ∈ cs, v.oneCell' = true) → (∀ v ∈ vs, v.oneCell' = true) →
    (∃ tA kA, w.shape? vb = some (tA, kA + 1)) → (∃ tB kB, w.shape? b = some (tB, kB)) →
    Calls P f #[.slice (some ⟨b, 0, none⟩) n c, .int .i64 i, .slice (some ⟨vb, voff, none⟩) m vc] w fun e w' =>
      e = .returned (.slice (some ⟨b, 0, none⟩) (n + m) c) ∧ w'.os = w.os ∧ w'.tape = w.tape ∧ w'.output = w.output ∧ w'.heap = ((w.setCells b ((i + m) * sz) (cs.drop (i * sz))).setCells b (i * sz) vs).heap
  grow : ∀ (b n c i vb voff m vc : Nat) (cs vs : List Value) (w : World), i < n → 0 < m → n ≤ c → c < n + m → (n + m) * bytes ≤ 140737488355328 → cs.length = n * sz → vs.length = m * sz →
    (∀ j v, cs[j]? = some v → w.cell? ⟨b, j, none⟩ = some v) → (∀ j v, vs[j]? = some v → w.cell? ⟨vb, voff + j, none⟩ = some v) → (∀ v ∈ cs, v.oneCell' = true) → (∀ v ∈ vs, v.oneCell' = true) →
    Calls P f #[.slice (some ⟨b, 0, none⟩) n c, .int .i64 i, .slice (some ⟨vb, voff, none⟩) m vc] w fun e w' =>
      ∃ G ROW, e = .returned (.slice (some ⟨w.heap.size, 0, none⟩) (n + m) G) ∧ n + m ≤ G ∧ G ≤ maxLen ∧ ROW.size = G * sz ∧ ROW.toList.take (i * sz) = cs.take (i * sz) ∧
      w'.os = w.os ∧ w'.tape = w.tape ∧ w'.output = w.output ∧ w'.heap = (((w.alloc (.cells ROW T)).setCells w.heap.size (i * sz) vs).setCells w.heap.size ((i + m) * sz) (cs.drop (i * sz))).heap
theorem RowsIs.drop {ok : Nat → Prop} {w : World} {l : List (Tup s)} {xs : List Value} (h : RowsIs ok w s l xs) (k : Nat) : RowsIs ok w s (l.drop k) (xs.drop (k * s.length)) := fun i x hx => by
  rw [List.getElem?_drop] at hx
  have := h (k + i) x hx
  rw [List.drop_drop, ← Nat.add_mul]
  exact this
theorem ins_rows {ok : Nat → Prop} {w : World} {l vs : List (Tup s)} {xs news : List Value} (h : RowsIs ok w s l xs) (h' : RowsIs ok w s vs news) (hl : xs.length = l.length * s.length) (hn : news.length = vs.length * s.length) {i : Nat} (hi : i ≤ l.length) :
    RowsIs ok w s (l.take i ++ (vs ++ l.drop i)) (xs.take (i * s.length) ++ (news ++ xs.drop (i * s.length))) := by
  have h1 : i * s.length ≤ l.length * s.length := Nat.mul_le_mul_right _ hi
  exact RowsIs.app (RowsIs.take h i) (RowsIs.app h' (RowsIs.drop h i) hn) (by rw [List.length_take, List.length_take, hl, Nat.min_eq_left h1, Nat.min_eq_left hi])
/-- slices.Insert, whatever the road. -/
theorem insert_mut {f : FuncId} {T : TypeId} {sz bytes : Nat} (hb : 0 < bytes) (H : InsWalk P f T s sz bytes) : MutOk P f T s [.one (.sc (.int .i64)), .one (.row T s)] false (insF bytes) := by
  obtain ⟨hfl, rfl, hpos, ⟨F, hend, hF⟩, hshift, hgrow⟩ := H
  intro l (x : Int × List (Tup s)) r w v vals base Fz Rd xs hx hown hbase hrows hFz hRd hno hargs hgk
  obtain ⟨i, hi1, hi2, hvp, hsz, rfl⟩ := insF_some hx
  obtain ⟨xi, vs⟩ := x
  simp only at hi1 hvp hsz
  subst hi1
  by_cases hin : i = l.length
  · subst hin
    have h1 := hF l vs hvp hsz
    have h2 := hend l (Int.ofNat l.length, vs) (l ++ vs) w v vals base Fz Rd xs h1 hown hbase hrows hFz hRd hno hargs hgk
    simpa using h2
  · have hargs0 := hargs
    simp only [PTIs, PKIs, LKIs] at hargs
    obtain ⟨u1, us, rfl, hu1, u2, rfl, hu2⟩ := hargs
    simp only [SKIs] at hu1
    subst hu1
    have hu2' := hu2
    simp only [SKIs] at hu2
    obtain ⟨A, vc, rfl, hvc, hel⟩ := hu2
    obtain ⟨news, hn1, hn2, hn3⟩ := row_flat hu2' vs.length (Nat.le_refl _)
    rw [List.take_length] at hn2
    obtain ⟨y, hy⟩ : ∃ y, vs[0]? = some y := ⟨vs[0], List.getElem?_eq_getElem hvp⟩
    obtain ⟨vb, voff, cs0, hA, hok, hcl, hca, hti⟩ := hel 0 y hy
    subst hA
    have hca' := hn3 vb voff rfl
    have hn1v := hn2.one hn1
    have hx1 := hrows.one hown.1
    have hvlt := hRd vb hok
    have hne : vb ≠ 0 ∨ True := .inr trivial
    obtain ⟨u0, hu0⟩ : ∃ u0, news[0]? = some u0 := ⟨news[0]'(by rw [hn1]; exact Nat.mul_pos hvp hpos), List.getElem?_eq_getElem _⟩
    have hc0 := hca' 0 u0 hu0
    rcases hown.2 with ⟨_, hl0⟩ | ⟨g, cap, cur, rfl, hg1, hg2, hg3, hg4, hg5, hg6⟩
    · omega
    have hgv : vb ≠ g := fun e => (hno g rfl).2 (e ▸ hok)
    have hlx : xs.length = l.length * s.length := hown.1
    have hcs : ∀ j v, xs[j]? = some v → w.cell? ⟨g, j, none⟩ = some v := fun j v hj => by
      have := hown.cells (g := g) rfl j v hj
      rw [Addr.add_mid, Nat.zero_add] at this
      exact this
    have hm63 : cap ≤ 9223372036854775807 := by unfold maxLen at hg4; omega
    have hil : i < l.length := by omega
    have hmi : i * s.length ≤ l.length * s.length := Nat.mul_le_mul_right _ hi2
    have hmx : (i + vs.length) * s.length = i * s.length + vs.length * s.length := Nat.add_mul _ _ _
    have hmn : (l.length + vs.length) * s.length = l.length * s.length + vs.length * s.length := Nat.add_mul _ _ _
    have hlen : (l.take i ++ (vs ++ l.drop i)).length = l.length + vs.length := by rw [List.length_append, List.length_append, List.length_take, List.length_drop]; omega
    have hrl : (xs.take (i * s.length) ++ (news ++ xs.drop (i * s.length))).length = (l.length + vs.length) * s.length := by rw [List.length_append, List.length_append, List.length_take, List.length_drop, hlx, hn1]; omega
    have hdl : (xs.drop (i * s.length)).length = l.length * s.length - i * s.length := by rw [List.length_drop, hlx]
    -- what a row holds behind both stores
    have set2 : ∀ (W : World) (k : Nat) (c0 : Array Value) (G : Nat) (xsA xsB : List Value), W.heap[k]? = some (.cells c0 T (0, 0)) → c0.size = G * s.length → l.length + vs.length ≤ G → c0.toList.take (i * s.length) = xs.take (i * s.length) →
        (∃ c1, ((W.setCells k ((i + vs.length) * s.length) (xs.drop (i * s.length))).setCells k (i * s.length) news).heap[k]? = some (.cells c1 T (0, 0)) ∧ c1.size = G * s.length ∧ c1.toList.take ((l.length + vs.length) * s.length) = xs.take (i * s.length) ++ (news ++ xs.drop (i * s.length))) ∧
        (∃ c1, ((W.setCells k (i * s.length) news).setCells k ((i + vs.length) * s.length) (xs.drop (i * s.length))).heap[k]? = some (.cells c1 T (0, 0)) ∧ c1.size = G * s.length ∧ c1.toList.take ((l.length + vs.length) * s.length) = xs.take (i * s.length) ++ (news ++ xs.drop (i * s.length))) := by
      intro W k c0 G _ _ hk hsz0 hG htk
      have hGs : (l.length + vs.length) * s.length ≤ G * s.length := Nat.mul_le_mul_right _ hG
      have hcl0 : c0.toList.length = G * s.length := by simpa using hsz0
      have fin : ∀ q, (xs.take (i * s.length) ++ (news ++ xs.drop (i * s.length)))[q]? = if q < i * s.length then c0.toList[q]? else if q < i * s.length + vs.length * s.length then news[q - i * s.length]? else xs[q - vs.length * s.length]? := fun q => by
        by_cases h1 : q < i * s.length
        · rw [if_pos h1, List.getElem?_append_left (by rw [List.length_take]; omega), ← htk, List.getElem?_take_of_lt h1]
        · rw [if_neg h1, List.getElem?_append_right (by rw [List.length_take]; omega), List.length_take, Nat.min_eq_left (by omega)]
          by_cases h2 : q < i * s.length + vs.length * s.length
          · rw [if_pos h2, List.getElem?_append_left (by omega)]
          · rw [if_neg h2, List.getElem?_append_right (by omega), List.getElem?_drop, hn1]
            congr 1
            omega
      constructor
      · have a1 := heap_setCells (xs.drop (i * s.length)) ((i + vs.length) * s.length) W _ hk
        have a2 := heap_setCells news (i * s.length) _ _ a1
        have b1 : (setFrom c0 ((i + vs.length) * s.length) (xs.drop (i * s.length))).toList = setL c0.toList ((i + vs.length) * s.length) (xs.drop (i * s.length)) := setFrom_toList _ _ _ (by rw [hdl]; omega)
        have b1l : (setL c0.toList ((i + vs.length) * s.length) (xs.drop (i * s.length))).length = c0.toList.length := setL_len _ _ _ (by rw [hdl]; omega)
        have b2 : (setFrom (setFrom c0 ((i + vs.length) * s.length) (xs.drop (i * s.length))) (i * s.length) news).toList = setL (setL c0.toList ((i + vs.length) * s.length) (xs.drop (i * s.length))) (i * s.length) news := by
          rw [← b1]; exact setFrom_toList _ _ _ (by rw [b1, b1l]; omega)
        refine ⟨_, a2, ?_, ?_⟩
        · rw [← Array.length_toList, b2, setL_len _ _ _ (by rw [b1l]; omega), b1l, hcl0]
        · rw [b2]
          apply List.ext_getElem?
          intro q
          rw [fin]
          by_cases hq : q < (l.length + vs.length) * s.length
          · rw [List.getElem?_take_of_lt hq, setL_get _ _ _ _ (by rw [b1l]; omega), setL_get _ _ _ _ (by rw [hdl]; omega), hdl, hn1]
            by_cases h1 : q < i * s.length
            · rw [if_neg (by omega), if_neg (by omega), if_pos h1]
            · by_cases h2 : q < i * s.length + vs.length * s.length
              · rw [if_pos (by omega), if_neg h1, if_pos h2]
              · rw [if_neg (by omega), if_pos (by omega), if_neg h1, if_neg h2, List.getElem?_drop]
                congr 1
                omega
          · rw [List.getElem?_eq_none (by rw [List.length_take]; omega), if_neg (by omega), if_neg (by omega), List.getElem?_eq_none (by omega)]
      · have a1 := heap_setCells news (i * s.length) W _ hk
        have a2 := heap_setCells (xs.drop (i * s.length)) ((i + vs.length) * s.length) _ _ a1
        have b1 : (setFrom c0 (i * s.length) news).toList = setL c0.toList (i * s.length) news := setFrom_toList _ _ _ (by omega)
        have b1l : (setL c0.toList (i * s.length) news).length = c0.toList.length := setL_len _ _ _ (by omega)
        have b2 : (setFrom (setFrom c0 (i * s.length) news) ((i + vs.length) * s.length) (xs.drop (i * s.length))).toList = setL (setL c0.toList (i * s.length) news) ((i + vs.length) * s.length) (xs.drop (i * s.length)) := by
          rw [← b1]; exact setFrom_toList _ _ _ (by rw [b1, b1l, hdl]; omega)
        refine ⟨_, a2, ?_, ?_⟩
        · rw [← Array.length_toList, b2, setL_len _ _ _ (by rw [b1l, hdl]; omega), b1l, hcl0]
        · rw [b2]
          apply List.ext_getElem?
          intro q
          rw [fin]
          by_cases hq : q < (l.length + vs.length) * s.length
          · rw [List.getElem?_take_of_lt hq, setL_get _ _ _ _ (by rw [b1l, hdl]; omega), setL_get _ _ _ _ (by omega), hdl, hn1]
            by_cases h1 : q < i * s.length
            · rw [if_neg (by omega), if_neg (by omega), if_pos h1]
            · by_cases h2 : q < i * s.length + vs.length * s.length
              · rw [if_neg (by omega), if_pos (by omega), if_neg h1, if_pos h2]
              · rw [if_pos (by omega), if_neg h1, if_neg h2, List.getElem?_drop]
                congr 1
                omega
          · rw [List.getElem?_eq_none (by rw [List.length_take]; omega), if_neg (by omega), if_neg (by omega), List.getElem?_eq_none (by omega)]
    by_cases hroom : l.length + vs.length ≤ cap
    · -- there is room
      have hcap : (l.length + vs.length) * s.length ≤ cap * s.length := Nat.mul_le_mul_right _ hroom
      have hcall := hshift g l.length cap i vb voff vs.length vc xs news w hil hvp hroom hm63 hgv hlx hn1 hcs (fun j hj => by rw [blk_cell hg2, Array.getElem?_eq_getElem (by omega)]; rfl) (fun j => blk_frozen hg2) hca' hx1 hn1v
        (shape_of_cell hc0) (⟨T, cur.size, by unfold World.shape?; rw [hg2]⟩)
      refine hcall.mono fun e w' hh => ?_
      obtain ⟨rfl, ho, ht, hou, hheap⟩ := hh
      obtain ⟨⟨c1, d1, d2, d3⟩, _⟩ := set2 w g cur cap xs xs hg2 hg5 hroom (by
        rw [← hg6, List.take_take, Nat.min_eq_left hmi])
      rw [← hheap] at d1
      have hoth : ∀ k, k ≠ g → w'.heap[k]? = w.heap[k]? := fun k hk => by
        rw [hheap, heap_setCells_other hk, heap_setCells_other hk]
      have hst : Stays (fun k => Fz k) (fun k => Fz k) w w' := fun k hk => ⟨hk, hoth k (fun e => (hno g rfl).1 (e ▸ hk))⟩
      have hstR : Stays Rd Rd w w' := fun k hk => ⟨hk, hoth k (fun e => (hno g rfl).2 (e ▸ hk))⟩
      refine ⟨.slice (some ⟨g, 0, none⟩) (l.length + vs.length) cap, xs.take (i * s.length) ++ (news ++ xs.drop (i * s.length)), rfl, fun h => (by cases h), ⟨by rw [hlen]; exact hrl, .inr ⟨g, cap, c1, by rw [hlen], hg1, d1, by rw [hlen]; exact hroom, hg4, d2, by rw [hlen]; exact d3⟩⟩,
        ins_rows (RowsIs.move hst hrows) (fun q z hq => TupIs.flat hfl (TupIs.move hstR (hn2 q z hq))) hlx hn1 hi2, fun k hk => .inl hk, ⟨ho, ht, hou⟩, by rw [hheap, size_setCells, size_setCells]; exact hbase, fun k hk hne => hoth k (fun e => hne (by rw [e]; rfl))⟩
    · -- a new row
      have hcall := hgrow g l.length cap i vb voff vs.length vc xs news w hil hvp hg3 (by omega) hsz hlx hn1 hcs hca' hx1 hn1v
      refine hcall.mono fun e w' hh => ?_
      obtain ⟨G, ROW, rfl, hG1, hG2, hR1, hR2, ho, ht, hou, hheap⟩ := hh
      have hnew : (w.alloc (.cells ROW T)).heap[w.heap.size]? = some (.cells ROW T (0, 0)) := heap_alloc_new w _
      obtain ⟨_, c1, d1, d2, d3⟩ := set2 (w.alloc (.cells ROW T)) w.heap.size ROW G xs xs hnew hR1 hG1 hR2
      rw [← hheap] at d1
      have hoth : ∀ k, k < w.heap.size → w'.heap[k]? = w.heap[k]? := fun k hk => by
        rw [hheap, heap_setCells_other (by omega), heap_setCells_other (by omega), Below.heap_alloc w _ k hk]
      have hst : Stays (fun k => Fz k) (fun k => Fz k) w w' := fun k hk => ⟨hk, hoth k (hFz k hk)⟩
      have hstR : Stays Rd Rd w w' := fun k hk => ⟨hk, hoth k (hRd k hk)⟩
      refine ⟨.slice (some ⟨w.heap.size, 0, none⟩) (l.length + vs.length) G, xs.take (i * s.length) ++ (news ++ xs.drop (i * s.length)), rfl, fun h => (by cases h), ⟨by rw [hlen]; exact hrl, .inr ⟨w.heap.size, G, c1, by rw [hlen], hbase, d1, by rw [hlen]; exact hG1, hG2, d2, by rw [hlen]; exact d3⟩⟩,
        ins_rows (RowsIs.move hst hrows) (fun q z hq => TupIs.flat hfl (TupIs.move hstR (hn2 q z hq))) hlx hn1 hi2, fun k hk => .inr ?_, ⟨ho, ht, hou⟩, by rw [hheap, size_setCells, size_setCells]; show base ≤ (w.heap.push _).size; rw [Array.size_push]; omega, fun k hk _ => hoth k hk⟩
      cases hk
      exact Nat.le_refl _
end
end Go.Proofs.YtaknikdbnfmlfaaDoor.Ex
