/- Part 3 of what the statements' rows lean on: the executor, the functions' trees, and what they come to in plain words. -/
import Derived.Test.YthlhbnaloefncaaGreatDoorU2
import Derived.Sort.Grow
import Derived.Laws.Strings2
import Derived.Laws.Strings3
import Derived.Laws.BytesArg
import Derived.Test.YthlhbnaloefncaaGreatDoorProg
import Derived.Orders
import Derived.Maps.RangeRun
import Derived.WalkKit
import Derived.Lib.AppendZerosOnto
import Derived.Lib.Walk
import Derived.Lib.SliceRun
import Derived.Lib.AppendZeros
import Derived.Laws.Externs
import Derived.Laws.IdiomCopy
import Derived.Laws.NewBlocks
import Derived.OwnWalk
import Derived.Deep.RegionLaw
import Derived.KernelRfl
namespace Go.Proofs.YthlhbnaloefncaaGreatDoor
set_option linter.unusedVariables false
set_option linter.unusedSimpArgs false
namespace Ex
open Go Go.RowKit Go.Sort
def ins1 (x : Int) : List Int → List Int
  | [] => [x]
  | y :: r => bif decide (x ≤ y) then x :: y :: r else y :: ins1 x r
def sorted : List Int → List Int
  | [] => []
  | x :: r => ins1 x (sorted r)
theorem ins1_perm (x : Int) : ∀ l : List Int, (ins1 x l).Perm (x :: l)
  | [] => List.Perm.refl _
  | y :: r => by
    unfold ins1
    cases decide (x ≤ y) with
    | true => exact List.Perm.refl _
    | false => exact ((ins1_perm x r).cons y).trans (List.Perm.swap x y r)
theorem sorted_perm0 : ∀ l : List Int, (sorted l).Perm l
  | [] => List.Perm.refl _
  | x :: r => (ins1_perm x _).trans ((sorted_perm0 r).cons x)
theorem ins1_pw (x : Int) : ∀ l : List Int, l.Pairwise (· ≤ ·) → (ins1 x l).Pairwise (· ≤ ·)
  | [], _ => List.pairwise_singleton _ _
  | y :: r, h => by
    unfold ins1
    cases hd : decide (x ≤ y) with
    | true =>
      have hxy := of_decide_eq_true hd
      refine List.pairwise_cons.2 ⟨fun z hz => ?_, h⟩
      rcases List.mem_cons.1 hz with rfl | hz
      · exact hxy
      · exact Int.le_trans hxy ((List.pairwise_cons.1 h).1 z hz)
    | false =>
      have hxy := of_decide_eq_false hd
      refine List.pairwise_cons.2 ⟨fun z hz => ?_, ins1_pw x r (List.pairwise_cons.1 h).2⟩
      rcases List.mem_cons.1 ((ins1_perm x r).mem_iff.1 hz) with rfl | hz
      · omega
      · exact (List.pairwise_cons.1 h).1 z hz
theorem sorted_pw0 : ∀ l : List Int, (sorted l).Pairwise (· ≤ ·)
  | [] => List.Pairwise.nil
  | x :: r => ins1_pw x _ (sorted_pw0 r)
theorem sorted_eq (l : List Int) : sorted l = l.mergeSort fun x y => decide (x ≤ y) := by
  refine List.Perm.eq_of_pairwise (le := (· ≤ ·)) (fun a b _ _ h1 h2 => Int.le_antisymm h1 h2) (sorted_pw0 l) ?_ ((sorted_perm0 l).trans (List.mergeSort_perm _ _).symm)
  have := List.pairwise_mergeSort (le := fun (x y : Int) => decide (x ≤ y)) (fun a b c h1 h2 => by simp at *; omega) (fun a b => by simp; omega) l
  exact this.imp fun h => by simpa using h
def sortF (l : List Int) (_ : Unit) : Option (List Int) := bif decide (l.length < 4611686018427387904) then some (sorted l) else none
theorem sort_mut {P : Program} {f : FuncId} {T : TypeId}
    (hs : ∀ (blk off cap : Nat) (zs : List Int) (w : World), Holds (Value.int .i64) w blk off zs.toArray → blk < w.heap.size → zs.length < 4611686018427387904 →
      Calls P f #[.slice (some ⟨blk, off, none⟩) zs.length cap] w fun e w' => e = .returned (.tuple #[]) ∧ ∃ n os, w' = grow (putRow (Value.int .i64) (Sort.ahead w n) blk off (zs.mergeSort fun x y => decide (x ≤ y)).toArray) os)
    (hn : ∀ (p : Option Addr) (cap : Nat) (w : World), Calls P f #[.slice p 0 cap] w fun e w' => e = .returned (.tuple #[]) ∧ w' = w) : MutOk P f T [.int .i64] [] true sortF := by
  intro l x r w v vals base Fz Rd xs hx hown hbase hrows hFz hRd hno hargs hgk
  simp only [PTIs] at hargs
  subst hargs
  change List Int at l
  rcases cond_some hx with ⟨hc, hh⟩ | ⟨_, h2⟩
  · have hlen := of_decide_eq_true hc
    cases hh
    rcases hown.2 with ⟨rfl, h0⟩ | ⟨g, cap, cur, rfl, hg, hh0, hle, hmax, hsz, htk⟩
    · have hl0 : l = [] := List.eq_nil_of_length_eq_zero h0
      subst hl0
      refine (hn none 0 w).mono fun e w' hw => ?_
      obtain ⟨rfl, rfl⟩ := hw
      refine ⟨_, xs, rfl, fun _ => rfl, by simpa [sorted] using hown, by simpa [sorted] using hrows, fun k hk => .inl hk, ⟨rfl, rfl, rfl⟩, hbase, fun k hk _ => rfl⟩
    · have hle' : List.length (α := Int) l ≤ cap := hle
      have hcell : ∀ j (hj : j < l.length), cur[j]? = some (.int .i64 l[j]) := fun j hj => by
        have h1 := hrows j l[j] (List.getElem?_eq_getElem hj)
        simp only [TupIs, SKIs, List.length_cons, List.length_nil, Nat.zero_add, Nat.mul_one] at h1
        obtain ⟨u, hu, hu2⟩ := h1
        have h2 : ((xs.drop j).take 1)[0]? = some u := by rw [hu]; rfl
        rw [List.getElem?_take_of_lt (by omega), List.getElem?_drop, Nat.add_zero, ← htk, List.getElem?_take_of_lt (by show j < List.length (α := Int) l * 1; omega)] at h2
        rw [hu2] at h2
        simpa using h2
      have hH : Holds (Value.int .i64) w g 0 l.toArray := fun j hj => by
        have hj' : j < l.length := by simpa using hj
        rw [Nat.zero_add]
        refine ⟨?_, by simp [World.frozen?, hh0]⟩
        simp only [World.cell?, hh0]
        rw [hcell j hj', getElem!_pos l.toArray j hj]
        simp
      have hgs : g < w.heap.size := (Array.getElem?_eq_some_iff.1 hh0).1
      refine (hs g 0 cap l w hH hgs hlen).mono fun e w' hw => ?_
      obtain ⟨rfl, n, os, rfl⟩ := hw
      have hsl : (sorted l).length = l.length := by rw [sorted_eq, List.length_mergeSort]
      have hsl' : (l.mergeSort fun x y => decide (x ≤ y)).length = l.length := List.length_mergeSort _
      generalize hd : (l.mergeSort fun x y => decide (x ≤ y)) = d at *
      have hds : sorted l = d := (sorted_eq l).trans hd
      have hcs : l.length ≤ cur.size := by rw [hsz]; show l.length ≤ cap * 1; omega
      have hput : (grow (putRow (Value.int .i64) (Sort.ahead w n) g 0 d.toArray) os).heap[g]? = some (.cells (putCells (Value.int .i64) 0 d.toArray cur) T (0, 0)) := by
        rw [heap_grow_old _ _ (by simpa using hgs)]
        unfold putRow mapBlock
        simp only [Array.getElem?_modify, if_true]
        show (w.heap[g]?).map _ = _
        rw [hh0]
        rfl
      have hother : ∀ k, k < w.heap.size → k ≠ g → (grow (putRow (Value.int .i64) (Sort.ahead w n) g 0 d.toArray) os).heap[k]? = w.heap[k]? := fun k hk hne => by
        rw [heap_grow_old _ _ (by simpa using hk)]
        unfold putRow mapBlock
        simp only [Array.getElem?_modify, if_neg (Ne.symm hne)]
        rfl
      have hxs' : ((putCells (Value.int .i64) 0 d.toArray cur).toList.take d.length) = d.map (Value.int .i64) := by
        apply List.ext_getElem?
        intro q
        by_cases hq : q < d.length
        · rw [List.getElem?_take_of_lt hq, List.getElem?_map, List.getElem?_eq_getElem hq, Array.getElem?_toList]
          unfold putCells
          rw [Array.getElem?_mapIdx, Array.getElem?_eq_getElem (by omega)]
          simp only [Option.map_some, Nat.zero_le, true_and, Nat.zero_add, List.size_toArray, hq, if_true, Nat.sub_zero]
          rw [getElem!_pos d.toArray q (by simpa using hq)]
          simp
        · rw [List.getElem?_eq_none (by rw [List.length_take]; omega), List.getElem?_eq_none (by simpa using hq)]
      refine ⟨_, d.map (Value.int .i64), rfl, fun _ => rfl, ⟨by rw [hds, List.length_map]; show d.length = d.length * 1; omega, .inr ⟨g, cap, _, by rw [hds]; exact congrArg (fun q => Value.slice (some ⟨g, 0, none⟩) q cap) hsl'.symm, hg, hput, by rw [hds]; exact Nat.le_trans (Nat.le_of_eq hsl') hle', hmax, by simpa [putCells] using hsz, by rw [hds]; show List.take (d.length * 1) _ = _; rw [Nat.mul_one]; exact hxs'⟩⟩, ?_, fun k hk => .inl hk, ⟨rfl, rfl, rfl⟩, ?_, fun k hk hne => ?_⟩
      · intro i z hz
        rw [hds] at hz
        have hz' : d[i]? = some (show Int from z) := hz
        have hi : i < d.length := (List.getElem?_eq_some_iff.1 hz').1
        simp only [TupIs, SKIs, List.length_cons, List.length_nil, Nat.zero_add, Nat.mul_one]
        refine ⟨.int .i64 z, ?_, rfl⟩
        apply List.ext_getElem?
        intro q
        cases q with
        | zero => rw [List.getElem?_take_of_lt (by omega), List.getElem?_drop, Nat.add_zero, List.getElem?_map, hz']; rfl
        | succ q => rw [List.getElem?_eq_none (by rw [List.length_take]; omega), List.getElem?_eq_none (by simp)]
      · simp; omega
      · exact hother k hk (fun e => hne (by rw [e]; rfl))
  · cases h2
end Ex
namespace Ex
open Go Go.RowKit
section
variable {P : Program} {w0 : Org} {w : World} {N : Nat} {S : AS} {o : Oper} {ρ : Type} {r : ρ} {id0 : Nat}
def isP : PV → Bool
  | .prow _ _ => true
  | .pcel _ _ => true
  | _ => false
def prowOn (S : AS) (o : Oper) : Bool := match o.op with
  | .call ⟨.builtin b, args, _⟩ => match b with
    | .len => match args.toList with
      | [x] => isP (S.ev x)
      | _ => false
    | _ => false
  | .indexAddr _ x _ => isP (S.ev x)
  | .load _ x => isP (S.ev x)
  | _ => false
def prowRun (P : Program) (S : AS) (o : Oper) (κ : PV → Option ρ) : Option ρ := match o.op with
  | .call ⟨.builtin .len, args, ts⟩ => match args.toList, ts[0]? with
    | [x], some t => match P.underlying t, S.ev x with
      | some (.slice _), .prow i offs => κ (.v (.int .i64 (Int.ofNat offs.length)))
      | _, _ => none
    | _, _ => none
  | .indexAddr t x j => match P.underlying t, S.ev x, S.ev j with
    | some (.slice e), .prow i offs, .v (.int _ n) => match sizeB P e, offs[n.toNat]? with
      | some sz, some off => bif Nat.beq sz 1 && decide (0 ≤ n) then κ (.pcel i off) else none
      | _, _ => none
    | _, _, _ => none
  | .load t x => match S.ev x with
    | .pcel i off => match partB P t [.ptr i off] 0 with
      | some p => κ p
      | none => none
    | _ => none
  | _ => none
theorem prow_ok {κ : PV → Option ρ} (h : prowRun P S o κ = some r) : SoundV P w0 N S o κ r := by
  unfold prowRun at h
  split at h
  · rename_i args ts ho
    split at h
    · rename_i x t hx ht
      have hl : args = #[x] := by apply Array.ext'; simpa using hx
      subst hl
      split at h
      · rename_i e i offs hu hp
        refine ⟨_, h, fun m a w hr => ⟨_, ?_, .v⟩⟩
        have h1 := hr.ev x
        rw [hp] at h1
        generalize hz : a.eval x = z at h1
        cases h1 with | prow h2 h3 h4 =>
        unfold execOp
        simp only [ho]
        simp [resolve, invoke, builtin, Builtin.len_, ht, hz, Sem.run_bind, run_underlying hu, goInt]
      · cases h
    · cases h
  · rename_i t x j ho
    split at h
    · rename_i e i offs k n hu hp hj
      split at h
      · rename_i sz off hs hoff
        rcases cond_some h with ⟨hc, hh⟩ | ⟨_, h2⟩
        · rw [Bool.and_eq_true] at hc
          have e1 := Nat.eq_of_beq_eq_true hc.1
          subst e1
          have e0 := of_decide_eq_true hc.2
          refine ⟨_, hh, fun m a w hr => ?_⟩
          have h1 := hr.ev x
          rw [hp] at h1
          generalize hz : a.eval x = z at h1
          cases h1 with | prow h2 h3 h4 =>
          have hlt := (List.getElem?_eq_some_iff.1 hoff).1
          refine ⟨_, run_index ho ?_, .pcel h2 (h4 _ _ hoff)⟩
          rw [hz, ev_v hr hj]
          simp only [Instr.indexAt, asIntOf, Sem.run_bind, run_underlying hu, Result.andThen_ok, Sem.run_pure]
          rw [if_pos ⟨e0, by omega⟩]
          simp [Sem.run_bind, sizeB_ok hs, Addr.add_mid]
        · cases h2
      · cases h
    · cases h
  · rename_i t x ho
    split at h
    · rename_i i off hp
      split at h
      · rename_i p hpb
        refine ⟨_, h, fun m a w hr => ?_⟩
        have h1 := hr.ev x
        rw [hp] at h1
        generalize hz : a.eval x = z at h1
        cases h1 with | pcel h2 h3 =>
        rename_i b q
        obtain ⟨v, h4, h5⟩ := load_cells (m := m) (B0 := w0.heap.size) (w := w) (vs := [.pointer (some ⟨m.b i, off, none⟩)]) (b := b) (o := q) (off := 0) (.cons .ptr .nil) (fun j u hj => by
          cases j with
          | zero => simp at hj; subst hj; exact h3
          | succ j => simp at hj) hpb
        rw [Nat.add_zero] at h4
        exact ⟨v, run_of (s := Instr.loadAt t (a.eval x)) (by unfold execOp; simp only [ho]) (by rw [hz]; exact h4), h5⟩
      · cases h
    · cases h
  · cases h
def hkRow (P : Program) : Hook P := ⟨prowOn, fun S id0 o κ => prowRun P S o fun p => κ ⟨p, []⟩, fun _ h => (prow_ok (κ := fun p => _) h).sound⟩
def keyV (a b : Int) : Value := .agg #[.int .i64 a, .int .i64 b]
def hasK (k : Int × Int) : List (Int × Int) → Bool
  | [] => false
  | q :: r => (k.1 == q.1 && k.2 == q.2) || hasK k r
def nodupK : List (Int × Int) → Bool
  | [] => true
  | k :: r => !hasK k r && nodupK r
def lookT (a b : Int) (κ : PV → Option ρ) (d : Option ρ) : List (Int × Int) → List PV → Option ρ
  | k :: ks, v :: vs => bif decide (a = k.1) && decide (b = k.2) then κ v else lookT a b κ d ks vs
  | _, _ => d
structure MapT (P : Program) where
  t : TypeId
  kt : TypeId
  et : TypeId
  z : Value
  hu : P.underlying t = some (.map kt et)
  hk : ∃ fs, P.underlying kt = some (.struct fs)
  hq : ∀ (w : World) (a b c d : Int), (Op.equal kt (keyV a b) (keyV c d)).run P w = .ok (a == c && (b == d)) w
  hc : ∀ (w : World) (e : Bool) (a b : Int), (Instr.checkKey e 10000 kt (keyV a b)).run P w = .ok () w
  hz : ∀ w : World, (zeroValue et).run P w = .ok z w
theorem findAsking_g (M : MapT P) (a b : Int) (w : World) : ∀ (es : List MapEntry) (i : Nat), (∀ e ∈ es, ∃ c d, e.key = keyV c d) →
    ∃ r, (Instr.findAsking M.kt (keyV a b) es i).run P w = .ok r w ∧ ((∃ e ∈ es, e.key = keyV a b) → ∃ j e, e ∈ es ∧ e.key = keyV a b ∧ r = some (j, e.val)) ∧ ((∀ e ∈ es, e.key ≠ keyV a b) → r = none)
  | [], i, _ => ⟨none, rfl, fun ⟨e, he, _⟩ => (by cases he), fun _ => rfl⟩
  | e :: es, i, h => by
    obtain ⟨c, d, hk⟩ := h e List.mem_cons_self
    simp only [Instr.findAsking, Sem.run_bind, hk, M.hq, Result.andThen_ok]
    by_cases hcd : a = c ∧ b = d
    · obtain ⟨rfl, rfl⟩ := hcd
      refine ⟨some (i, e.val), by simp, fun _ => ⟨i, e, List.mem_cons_self, hk, rfl⟩, fun hn => absurd hk (hn e List.mem_cons_self)⟩
    · have hb : (a == c && (b == d)) = false := by
        cases hh : (a == c && (b == d)) with
        | false => rfl
        | true => simp at hh; exact absurd hh hcd
      have hne : e.key ≠ keyV a b := fun e' => by
        rw [hk] at e'
        simp [keyV] at e'
        exact hcd ⟨e'.1.symm, e'.2.symm⟩
      obtain ⟨x, h1, h2, h3⟩ := findAsking_g M a b w es (i + 1) (fun e he => h e (List.mem_cons_of_mem _ he))
      rw [hb]
      refine ⟨x, by simpa using h1, fun ⟨e', he', hk'⟩ => ?_, fun hn => h3 fun e' he' => hn e' (List.mem_cons_of_mem _ he')⟩
      rcases List.mem_cons.1 he' with rfl | he'
      · exact absurd hk' hne
      · obtain ⟨j, e2, g1, g2, g3⟩ := h2 ⟨e', he', hk'⟩
        exact ⟨j, e2, List.mem_cons_of_mem _ g1, g2, g3⟩
theorem findKey_g (M : MapT P) (a b : Int) (w : World) (es : List MapEntry) (h : ∀ e ∈ es, ∃ c d, e.key = keyV c d) :
    ∃ r, (Instr.findKey M.kt (keyV a b) es).run P w = .ok r w ∧ ((∃ e ∈ es, e.key = keyV a b) → ∃ j e, e ∈ es ∧ e.key = keyV a b ∧ r = some (j, e.val)) ∧ ((∀ e ∈ es, e.key ≠ keyV a b) → r = none) := by
  obtain ⟨fs, hf⟩ := M.hk
  cases es with
  | nil =>
    refine ⟨none, ?_, fun ⟨e, he, _⟩ => (by cases he), fun _ => rfl⟩
    simp only [Instr.findKey, Sem.run_bind, run_underlying hf, Result.andThen_ok, Instr.findNow, Sem.run_pure]
  | cons p q =>
    obtain ⟨x, h1, h2⟩ := findAsking_g M a b w (p :: q) 0 h
    obtain ⟨c, d, hk⟩ := h p List.mem_cons_self
    refine ⟨x, ?_, h2⟩
    obtain ⟨pk, pv, pb⟩ := p
    simp only at hk
    subst hk
    simp only [Instr.findKey, keyV, Sem.run_bind, run_underlying hf, Result.andThen_ok, Instr.findNow, Instr.sameNow]
    exact h1
theorem lookT_some {a b : Int} {κ : PV → Option ρ} {d : Option ρ} : ∀ {ks : List (Int × Int)} {vs : List PV}, lookT a b κ d ks vs = some r → (∃ (j : Nat) (v : PV), ks[j]? = some (a, b) ∧ vs[j]? = some v ∧ κ v = some r) ∨ ((∀ (j : Nat) v, ks[j]? = some (a, b) → vs[j]? = some v → False) ∧ d = some r)
  | [], vs, h => .inr ⟨fun j v hj => by simp at hj, by simpa [lookT] using h⟩
  | k :: ks, [], h => .inr ⟨fun j v _ hv => by simp at hv, by simpa [lookT] using h⟩
  | k :: ks, v :: vs, h => by
    simp only [lookT] at h
    rcases cond_some h with ⟨h1, h2⟩ | ⟨h1, h2⟩
    · simp only [Bool.and_eq_true, decide_eq_true_eq] at h1
      exact .inl ⟨0, v, by simp [h1.1, h1.2], rfl, h2⟩
    · rcases lookT_some h2 with ⟨j, v', g1, g2, g3⟩ | ⟨g1, g2⟩
      · exact .inl ⟨j + 1, v', by simpa using g1, by simpa using g2, g3⟩
      · refine .inr ⟨fun j v' hj hv => ?_, g2⟩
        cases j with
        | zero =>
          simp at hj
          subst hj
          simp at h1
        | succ j => exact g1 j v' (by simpa using hj) (by simpa using hv)
theorem hasK_iff {k : Int × Int} : ∀ {l : List (Int × Int)}, hasK k l = true ↔ k ∈ l
  | [] => by simp [hasK]
  | q :: r => by
    simp only [hasK, Bool.or_eq_true, Bool.and_eq_true, beq_iff_eq, List.mem_cons, hasK_iff (l := r)]
    rw [Prod.ext_iff]
theorem nodupK_inj : ∀ {l : List (Int × Int)} {i j : Nat} {k : Int × Int}, nodupK l = true → l[i]? = some k → l[j]? = some k → i = j
  | [], i, j, k, _, h, _ => by simp at h
  | q :: r, i, j, k, h, hi, hj => by
    simp only [nodupK, Bool.and_eq_true, Bool.not_eq_true'] at h
    have hn : q ∉ r := fun hm => by rw [hasK_iff.2 hm] at h; cases h.1
    cases i with
    | zero =>
      cases j with
      | zero => rfl
      | succ j => simp at hi hj; subst hi; exact absurd (List.mem_of_getElem? hj) hn
    | succ i =>
      cases j with
      | zero => simp at hi hj; subst hj; exact absurd (List.mem_of_getElem? hi) hn
      | succ j => exact congrArg (· + 1) (nodupK_inj h.2 (by simpa using hi) (by simpa using hj))
def rmapOn (S : AS) (o : Oper) : Bool := match o.op with
  | .lookup _ x _ _ => match S.ev x with
    | .rmap _ _ => true
    | _ => false
  | _ => false
def rmapRun (M : MapT P) (S : AS) (o : Oper) (κ : PV → Option ρ) : Option ρ := match o.op with
  | .lookup t x k c => match S.ev x, S.ev k with
    | .rmap ks vs, .agg [.v (.int .i64 a), .v (.int .i64 b)] => bif Nat.beq t M.t && (nodupK ks && Nat.beq ks.length vs.length) then (bif c then lookT a b (fun v => κ (.tup [v, .v (.bool true)])) (κ (.tup [.v M.z, .v (.bool false)])) ks vs else lookT a b κ (κ (.v M.z)) ks vs) else none
    | _, _ => none
  | _ => none
theorem rmap_get {m : Nm} {B0 : Nat} : ∀ {vs : List PV} {us : List Value} {j : Nat} {p : PV}, RepVs m B0 w vs us → vs[j]? = some p → ∃ u, us[j]? = some u ∧ RepV m B0 w p u
  | [], _, j, p, _, h => by simp at h
  | v :: vs, _, j, p, .cons h hs, hj => by
    cases j with
    | zero => simp at hj; subst hj; exact ⟨_, rfl, h⟩
    | succ j =>
      obtain ⟨u, h1, h2⟩ := rmap_get hs (by simpa using hj)
      exact ⟨u, by simpa using h1, h2⟩
def foundV (z : Value) (c : Bool) : Option (Nat × Value) → Value
  | some (_, u) => if c = true then .tuple #[u, .bool true] else u
  | none => if c = true then .tuple #[z, .bool false] else z
theorem rmap_ok (M : MapT P) {κ : PV → Option ρ} (h : rmapRun M S o κ = some r) : SoundV P w0 N S o κ r := by
  unfold rmapRun at h
  split at h
  · rename_i t x k c ho
    split at h
    · rename_i ks vs a b hx hk
      rcases cond_some h with ⟨hc, hh⟩ | ⟨_, h2⟩
      · clear h
        rw [Bool.and_eq_true, Bool.and_eq_true] at hc
        have ht := Nat.eq_of_beq_eq_true hc.1
        subst ht
        have hnd := hc.2.1
        have hlen := Nat.eq_of_beq_eq_true hc.2.2
        -- what the machine finds
        have key : ∀ m ac w, Rep w0 N m S ac w → ∃ bb es clock, ac.eval x = .map (some bb) ∧ ac.eval k = keyV a b ∧ w.heap[bb]? = some (.map es clock) ∧
            ∃ q, (Instr.findKey M.kt (keyV a b) es.toList).run P w = .ok q w ∧ (∀ (j : Nat) v, ks[j]? = some (a, b) → vs[j]? = some v → ∃ i u, q = some (i, u) ∧ RepV m w0.heap.size w v u) ∧ ((∀ (j : Nat) v, ks[j]? = some (a, b) → vs[j]? = some v → False) → q = none) := by
          intro m ac w hr
          have h1 := hr.ev x
          rw [hx] at h1
          generalize hz : ac.eval x = z at h1
          cases h1 with | rmap hF hv hl hh' hp =>
          rename_i bb clock us es
          have h2 := hr.ev k
          rw [hk] at h2
          have hkv : ac.eval k = keyV a b := by
            generalize ac.eval k = y at h2
            cases h2 with | agg h2 =>
            cases h2 with | cons g1 g2 =>
            cases g2 with | cons g2 g3 =>
            cases g1; cases g2; cases g3; rfl
          have hes : ∀ e ∈ es.toList, ∃ j : Nat, ∃ kk u, ks[j]? = some kk ∧ us[j]? = some u ∧ e.key = keyV kk.1 kk.2 ∧ e.val = u := fun e he => by
            have : (e.key, e.val) ∈ es.toList.map fun e => (e.key, e.val) := List.mem_map.2 ⟨e, he, rfl⟩
            have := hp.mem_iff.1 this
            obtain ⟨j, hj⟩ := List.mem_iff_getElem?.1 this
            rw [List.getElem?_zip_eq_some] at hj
            obtain ⟨j1, j2⟩ := hj
            rw [List.getElem?_map] at j1
            obtain ⟨kk, g1, g2⟩ := Option.map_eq_some_iff.1 j1
            exact ⟨j, kk, _, g1, j2, g2.symm, rfl⟩
          obtain ⟨q, q1, q2, q3⟩ := findKey_g M a b w es.toList (fun e he => by obtain ⟨j, kk, u, _, _, h, _⟩ := hes e he; exact ⟨_, _, h⟩)
          refine ⟨bb, es, clock, rfl, hkv, hh', q, q1, fun j v hj hv' => ?_, fun hn => ?_⟩
          · obtain ⟨u, hu, hru⟩ := rmap_get hv hv'
            have hz' : (keyV a b, u) ∈ (ks.map fun k => Value.agg #[.int .i64 k.1, .int .i64 k.2]).zip us := by
              refine List.mem_iff_getElem?.2 ⟨j, ?_⟩
              rw [List.getElem?_zip_eq_some]
              exact ⟨by rw [List.getElem?_map, hj]; rfl, hu⟩
            obtain ⟨e, he, hek⟩ := List.mem_map.1 (hp.mem_iff.2 hz')
            obtain ⟨i, e2, g1, g2, g3⟩ := q2 ⟨e, he, congrArg Prod.fst hek⟩
            refine ⟨i, e2.val, g3, ?_⟩
            obtain ⟨j2, kk, u2, f1, f2, f3, f4⟩ := hes e2 g1
            rw [g2] at f3
            have hkk : kk = (a, b) := by
              simp [keyV] at f3
              exact Prod.ext f3.1.symm f3.2.symm
            subst hkk
            have := nodupK_inj hnd f1 hj
            subst this
            rw [hu] at f2
            cases f2
            rw [f4]
            exact hru
          · refine q3 fun e he hek => ?_
            obtain ⟨j, kk, u, f1, f2, f3, f4⟩ := hes e he
            rw [hek] at f3
            have hkk : kk = (a, b) := by
              simp [keyV] at f3
              exact Prod.ext f3.1.symm f3.2.symm
            subst hkk
            have hj := (List.getElem?_eq_some_iff.1 f1).1
            exact hn j _ f1 (List.getElem?_eq_getElem (by omega))
        have run : ∀ (ac : Act) (w : World) (bb : Nat) (es : Array MapEntry) (clock : Nat) (q : Option (Nat × Value)) (cc : Bool), ac.eval x = .map (some bb) → ac.eval k = keyV a b → w.heap[bb]? = some (.map es clock) → (Instr.findKey M.kt (keyV a b) es.toList).run P w = .ok q w → c = cc → 
            (execOp ac.eval o).run P w = .ok (.value (foundV M.z cc q)) w := by
          intro ac w bb es clock q cc e1 e2 e3 e4 e5
          subst e5
          have : (Instr.lookup M.t (ac.eval x) (ac.eval k) c).run P w = .ok (foundV M.z c q) w := by
            rw [e1, e2]
            cases q with
            | none => cases c <;> simp [Instr.lookup, Sem.run_bind, run_underlying M.hu, Result.andThen_ok, getObj, Sem.run, e3, M.hc, e4, M.hz, foundV]
            | some q => obtain ⟨i, u⟩ := q; cases c <;> simp [Instr.lookup, Sem.run_bind, run_underlying M.hu, Result.andThen_ok, getObj, Sem.run, e3, M.hc, e4, foundV]
          exact run_of (s := Instr.lookup M.t (ac.eval x) (ac.eval k) c) (by unfold execOp; simp only [ho]) this
        cases c with
        | true =>
          simp only [cond_true] at hh
          rcases lookT_some hh with ⟨j, v, g1, g2, g3⟩ | ⟨g1, g2⟩
          · refine ⟨_, g3, fun m ac w hr => ?_⟩
            obtain ⟨bb, es, clock, e1, e2, e3, q, q1, q2, _⟩ := key m ac w hr
            obtain ⟨i, u, rfl, hu⟩ := q2 j v g1 g2
            exact ⟨_, run ac w bb es clock _ true e1 e2 e3 q1 rfl, RepV.tup (.cons hu (.cons .v .nil))⟩
          · refine ⟨_, g2, fun m ac w hr => ?_⟩
            obtain ⟨bb, es, clock, e1, e2, e3, q, q1, _, q3⟩ := key m ac w hr
            have := q3 g1
            subst this
            exact ⟨_, run ac w bb es clock _ true e1 e2 e3 q1 rfl, RepV.tup (.cons .v (.cons .v .nil))⟩
        | false =>
          simp only [cond_false] at hh
          rcases lookT_some hh with ⟨j, v, g1, g2, g3⟩ | ⟨g1, g2⟩
          · refine ⟨_, g3, fun m ac w hr => ?_⟩
            obtain ⟨bb, es, clock, e1, e2, e3, q, q1, q2, _⟩ := key m ac w hr
            obtain ⟨i, u, rfl, hu⟩ := q2 j v g1 g2
            exact ⟨_, run ac w bb es clock _ false e1 e2 e3 q1 rfl, hu⟩
          · refine ⟨_, g2, fun m ac w hr => ?_⟩
            obtain ⟨bb, es, clock, e1, e2, e3, q, q1, _, q3⟩ := key m ac w hr
            have := q3 g1
            subst this
            exact ⟨_, run ac w bb es clock _ false e1 e2 e3 q1 rfl, RepV.v⟩
      · cases h2
    · cases h
  · cases h
def hkMap (M : MapT P) : Hook P := ⟨rmapOn, fun S id0 o κ => rmapRun M S o fun p => κ ⟨p, []⟩, fun _ h => (rmap_ok M (κ := fun p => _) h).sound⟩
end
end Ex
namespace Ex
open Go Go.RowKit
section
variable {P : Program} {w0 : Org} {w : World} {N : Nat} {S : AS} {o : Oper} {ρ : Type} {r : ρ} {id0 : Nat}
theorem Heap.all_new {w' : World} {m : Nm} (h : Heap w0 m S.σ w) (hf : Fresh id0 S) (hb : Below w.heap.size w w') :
    Grows (old id0) m ⟨m.v, m.b, fun k => m.F k ∨ (w.heap.size ≤ k ∧ k < w'.heap.size)⟩ w w' ∧ Heap w0 ⟨m.v, m.b, fun k => m.F k ∨ (w.heap.size ≤ k ∧ k < w'.heap.size)⟩ S.σ w' := by
  have hg : Grows (old id0) m ⟨m.v, m.b, fun k => m.F k ∨ (w.heap.size ≤ k ∧ k < w'.heap.size)⟩ w w' := ⟨fun _ _ => rfl, fun _ _ => rfl, fun k hk => ⟨.inl hk, hb.block k (h.flt k hk)⟩⟩
  refine ⟨hg, Heap.step (fun i => False) h hg hf.σ (fun i _ => ⟨rfl, hf.p i⟩) (fun i k _ hk => ⟨hb.block k (blk_lt h hk).1, fun hF => hF.elim (blk_lt h hk).2.1 (fun hz => by have := (blk_lt h hk).1; omega)⟩) (fun i hi => hi.elim) (fun i j k hij hi => hi.elim) (fun k hk => hk.elim (fun h5 => Nat.lt_of_lt_of_le (h.flt k h5) hb.size) (fun hz => hz.2)) (h.below.trans (hb.mono h.below.size))⟩
structure CloT (P : Program) where
  f : FuncId
  T : TypeId
  offs : List Nat
  cap : Option FuncId
  ok : ∀ (b : Nat) (w : World) (cv : List Value), (match cap with | none => cv = [] | some g => ∃ u, cv = [u] ∧ SKIs (fun k => k < w.heap.size) w (.ptr [.fnc g]) () u) → GK w → Calls P f (.pointer (some ⟨b, 0, none⟩) :: cv).toArray w fun e w' => ∃ v xs, e = .returned v ∧ w'.ownsRow w.heap.size T 1 v offs.length xs ∧ (∀ (j o : Nat), offs[j]? = some o → xs[j]? = some (.pointer (some ⟨b, o, none⟩))) ∧ Below w.heap.size w w'
  enters : ∀ (args : Array Value) (w : World), (callFunc f args).run P w = .ok (.enter f args) w
def capIs (cap : Option FuncId) (caps : List PV) : Bool := match cap with
  | none => caps.isEmpty
  | some g => match caps with
    | [.rptr _ s _ off] => sames s [.fnc g] && Nat.beq off 0
    | _ => false
def cloOf (f : FuncId) : List (CloT P) → Option (CloT P)
  | [] => none
  | c :: q => bif Nat.beq c.f f then some c else cloOf f q
theorem cloOf_f {f : FuncId} : ∀ {l : List (CloT P)} {c : CloT P}, cloOf f l = some c → c.f = f
  | [], c, h => by cases h
  | x :: q, c, h => by
    rcases cond_some h with ⟨h1, h2⟩ | ⟨_, h2⟩
    · cases h2; exact Nat.eq_of_beq_eq_true h1
    · exact cloOf_f h2
def isSomeB {α : Type} : Option α → Bool
  | some _ => true
  | none => false
def cloOn (l : List (CloT P)) (S : AS) (o : Oper) : Bool := match o.op with
  | .call ⟨.value x, _, _⟩ => match S.ev x with
    | .fn f _ => isSomeB (cloOf f l)
    | _ => false
  | _ => false
def cloRun (l : List (CloT P)) (S : AS) (o : Oper) (κ : Eff → Option ρ) : Option ρ := match o.op with
  | .call ⟨.value x, args, _⟩ => match S.ev x, args.toList with
    | .fn f caps, [y] => match cloOf f l, S.ev y with
      | some c, .ptr i off => bif Nat.beq off 0 && (capIs c.cap caps && Nat.blt 0 c.offs.length) then κ ⟨.prow i c.offs, []⟩ else none
      | _, _ => none
    | _, _ => none
  | _ => none
theorem clo_ok {l : List (CloT P)} {κ : Eff → Option ρ} (h : cloRun l S o κ = some r) : Sound P w0 N S id0 o κ r := by
  unfold cloRun at h
  split at h
  · rename_i x args ts ho
    split at h
    · rename_i f caps y hx hy
      have hl : args = #[y] := by apply Array.ext'; simpa using hy
      subst hl
      split at h
      · rename_i c i off hc hyv
        rcases cond_some h with ⟨hb, hh⟩ | ⟨_, h2⟩
        · rw [Bool.and_eq_true, Bool.and_eq_true] at hb
          have e0 := Nat.eq_of_beq_eq_true hb.1
          subst e0
          have hcap := hb.2.1
          have hpos : 0 < c.offs.length := Nat.le_of_ble_eq_true hb.2.2
          have hf := cloOf_f hc
          subst hf
          refine ⟨_, hh, ?_⟩
          intro S' m a w hl hf hr K Q hK
          have hr0 := hr.le hl
          have h1 := hr0.ev x
          rw [hx] at h1
          generalize hz : a.eval x = z at h1
          cases h1 with | fn h1 =>
          rename_i cv
          have h2 := hr0.ev y
          rw [hyv] at h2
          generalize hzy : a.eval y = zy at h2
          cases h2
          have hcv : (match c.cap with | none => cv = [] | some g => ∃ u, cv = [u] ∧ SKIs (fun k => k < w.heap.size) w (.ptr [.fnc g]) () u) := by
            unfold capIs at hcap
            split at hcap
            · have : caps = [] := by simpa using hcap
              subst this
              cases h1
              rfl
            · rename_i g hcg
              try rw [hcg]
              split at hcap
              · rename_i fr s d off
                rw [Bool.and_eq_true] at hcap
                have es := sames_eq hcap.1
                subst es
                have eo := Nat.eq_of_beq_eq_true hcap.2
                subst eo
                cases h1 with | cons g1 g2 =>
                cases g2
                cases g1 with | rptr g1 =>
                refine ⟨_, rfl, ?_⟩
                rw [Nat.add_zero]
                exact SKIs.move (fun k hk => ⟨hr.heap.flt k hk.1, rfl⟩) g1
              · cases hcap
          have hcall := c.ok (m.b i) w cv hcv hr.gk
          have hrun : (execOp a.eval o).run P w = .ok (.enter c.f (.pointer (some ⟨m.b i, 0, none⟩) :: cv).toArray) w := by
            have he := c.enters (.pointer (some ⟨m.b i, 0, none⟩) :: cv).toArray w
            unfold execOp
            simp [ho, resolve, Deferred.ofValue, invoke, hz, hzy]
            simpa using he
          unfold Oper.wp
          rw [hrun, Oper.upon_enter]
          refine hcall.mono fun en w' hh' => ?_
          obtain ⟨v, xs, rfl, g1, g2, g3⟩ := hh'
          obtain ⟨k1, k2⟩ := Heap.all_new hr.heap hf g3
          refine hK _ w' v k1 k2 ?_
          rcases g1.2 with ⟨_, hn⟩ | ⟨g, cap, cur, rfl, q1, q2, q3, q4, q5, q6⟩
          · omega
          · have hlt := (Array.getElem?_eq_some_iff.1 q2).1
            refine .prow (.inr ⟨q1, hlt⟩) q3 (fun j o hj => ?_)
            have hj' := g2 j o hj
            have hjl := (List.getElem?_eq_some_iff.1 hj).1
            rw [← q6, List.getElem?_take_of_lt (by omega)] at hj'
            rw [blk_cell q2]
            simpa using hj'
        · cases h2
      · cases h
    · cases h
  · cases h
def hkClo (l : List (CloT P)) : Hook P := ⟨cloOn l, fun S id0 o κ => cloRun l S o κ, fun _ h => clo_ok h⟩
theorem offs_get (b : Nat) {offs : List Nat} {j o : Nat} (hj : offs[j]? = some o) : (offs.map fun o => (b, o))[j]? = some (b, o) := by rw [List.getElem?_map, hj]; rfl
theorem offs_len {w w' : World} {T : TypeId} {u : Value} {xs : List Value} (b : Nat) (offs : List Nat) (h : w'.ownsRow w.heap.size T 1 u (offs.map fun o => (b, o)).length xs) : w'.ownsRow w.heap.size T 1 u offs.length xs := by rwa [List.length_map] at h
theorem clo_of0 {f : FuncId} {T : TypeId} {offs : List Nat} {F : (Nat × Nat) → Option (List (Nat × Nat))} (h : CallsOk P f [.one (.sc .adr)] [.one (.row T [.adr])] F) (hF : ∀ b, F (b, 0) = some (offs.map fun o => (b, o))) :
    ∀ (b : Nat) (w : World) (cv : List Value), cv = [] → GK w → Calls P f (.pointer (some ⟨b, 0, none⟩) :: cv).toArray w fun e w' => ∃ v xs, e = .returned v ∧ w'.ownsRow w.heap.size T 1 v offs.length xs ∧ (∀ (j o : Nat), offs[j]? = some o → xs[j]? = some (.pointer (some ⟨b, o, none⟩))) ∧ Below w.heap.size w w' := by
  intro b w cv hcv hgk
  subst hcv
  have hc := h (b, 0) _ w [.pointer (some ⟨b, 0, none⟩)] (hF b) (by simp only [PTIs, PKIs, LKIs, SKIs]; exact ⟨_, rfl, rfl⟩) hgk
  refine hc.mono fun e w' hh => ?_
  obtain ⟨v, rfl, hret, hb⟩ := hh
  obtain ⟨vs, rv, Fz, rfl, hn, _⟩ := hret.ex
  simp only [PTNew, PKNew, LKNew] at hn
  obtain ⟨u, rfl, rfl, xs, h1, h2⟩ := hn
  refine ⟨u, xs, rfl, offs_len b offs h1, fun j o hj => ?_, hb⟩
  have := h2 j (b, o) (offs_get b hj)
  simp only [TupIs, SKIs] at this
  obtain ⟨q, hq, rfl⟩ := this
  have h3 : ((xs.drop (j * 1)).take 1)[0]? = some (.pointer (some ⟨b, o, none⟩)) := by
    show ((xs.drop (j * [SK.adr].length)).take [SK.adr].length)[0]? = _
    rw [hq]; rfl
  rw [List.getElem?_take_of_lt (by omega), List.getElem?_drop] at h3
  simpa using h3
theorem clo_of1 {f g : FuncId} {T : TypeId} {offs : List Nat} {F : ((Nat × Nat) × Unit) → Option (List (Nat × Nat))} (h : CallsOk P f [.one (.sc .adr), .one (.ptr [.fnc g])] [.one (.row T [.adr])] F) (hF : ∀ b, F ((b, 0), ()) = some (offs.map fun o => (b, o))) :
    ∀ (b : Nat) (w : World) (cv : List Value), (∃ u, cv = [u] ∧ SKIs (fun k => k < w.heap.size) w (.ptr [.fnc g]) () u) → GK w → Calls P f (.pointer (some ⟨b, 0, none⟩) :: cv).toArray w fun e w' => ∃ v xs, e = .returned v ∧ w'.ownsRow w.heap.size T 1 v offs.length xs ∧ (∀ (j o : Nat), offs[j]? = some o → xs[j]? = some (.pointer (some ⟨b, o, none⟩))) ∧ Below w.heap.size w w' := by
  intro b w cv hcv hgk
  obtain ⟨u0, rfl, hu0⟩ := hcv
  have hc := h ((b, 0), ()) _ w [.pointer (some ⟨b, 0, none⟩), u0] (hF b) (by simp only [PTIs, PKIs, LKIs]; exact ⟨_, _, rfl, by simp only [SKIs], _, rfl, hu0⟩) hgk
  refine hc.mono fun e w' hh => ?_
  obtain ⟨v, rfl, hret, hb⟩ := hh
  obtain ⟨vs, rv, Fz, rfl, hn, _⟩ := hret.ex
  simp only [PTNew, PKNew, LKNew] at hn
  obtain ⟨u, rfl, rfl, xs, h1, h2⟩ := hn
  refine ⟨u, xs, rfl, offs_len b offs h1, fun j o hj => ?_, hb⟩
  have := h2 j (b, o) (offs_get b hj)
  simp only [TupIs, SKIs] at this
  obtain ⟨q, hq, rfl⟩ := this
  have h3 : ((xs.drop (j * 1)).take 1)[0]? = some (.pointer (some ⟨b, o, none⟩)) := by
    show ((xs.drop (j * [SK.adr].length)).take [SK.adr].length)[0]? = _
    rw [hq]; rfl
  rw [List.getElem?_take_of_lt (by omega), List.getElem?_drop] at h3
  simpa using h3
structure MapC (P : Program) where
  f : FuncId
  ks : List (Int × Int)
  vs : List PV
  ok : ∀ (w : World), GK w → Calls P f #[] w fun e w' => ∃ b es clock us, e = .returned (.map (some b)) ∧ w.heap.size ≤ b ∧ w'.heap[b]? = some (.map es clock) ∧ ks.length = us.length ∧ (es.toList.map fun e => (e.key, e.val)).Perm ((ks.map fun k => Value.agg #[.int .i64 k.1, .int .i64 k.2]).zip us) ∧
    (∀ (m : Nm) (B0 : Nat), B0 ≤ w.heap.size → (∀ k, w.heap.size ≤ k → k < w'.heap.size → m.F k) → RepVs m B0 w' vs us) ∧ Below w.heap.size w w'
  ids : ∀ p, idsL p vs = true
  enters : ∀ (args : Array Value) (w : World), (callFunc f args).run P w = .ok (.enter f args) w
def mapcOn (c : MapC P) (S : AS) (o : Oper) : Bool := match o.op with
  | .call ⟨.value x, _, _⟩ => match S.ev x with
    | .fn f _ => Nat.beq c.f f
    | _ => false
  | _ => false
def mapcRun (c : MapC P) (S : AS) (o : Oper) (κ : Eff → Option ρ) : Option ρ := match o.op with
  | .call ⟨.value x, args, _⟩ => match S.ev x, args.toList with
    | .fn f [], [] => bif Nat.beq c.f f then κ ⟨.rmap c.ks c.vs, []⟩ else none
    | _, _ => none
  | _ => none
theorem mapc_ok {c : MapC P} {κ : Eff → Option ρ} (h : mapcRun c S o κ = some r) : Sound P w0 N S id0 o κ r := by
  unfold mapcRun at h
  split at h
  · rename_i x args ts ho
    split at h
    · rename_i f hx hy
      have hl : args = #[] := by apply Array.ext'; simpa using hy
      subst hl
      rcases cond_some h with ⟨hb, hh⟩ | ⟨_, h2⟩
      · have e := Nat.eq_of_beq_eq_true hb
        subst e
        refine ⟨_, hh, ?_⟩
        intro S' m a w hl hf hr K Q hK
        have hr0 := hr.le hl
        have h1 := hr0.ev x
        rw [hx] at h1
        generalize hz : a.eval x = z at h1
        cases h1 with | fn h1 =>
        cases h1
        have hrun : (execOp a.eval o).run P w = .ok (.enter c.f #[]) w := by
          have he := c.enters #[] w
          unfold execOp
          simp [ho, resolve, Deferred.ofValue, invoke, hz]
          simpa using he
        unfold Oper.wp
        rw [hrun, Oper.upon_enter]
        refine (c.ok w hr.gk).mono fun en w' hh' => ?_
        obtain ⟨b, es, clock, us, rfl, g1, g2, g3, g4, g5, g6⟩ := hh'
        obtain ⟨k1, k2⟩ := Heap.all_new hr.heap hf g6
        exact hK _ w' _ k1 k2 (.rmap (.inr ⟨g1, (Array.getElem?_eq_some_iff.1 g2).1⟩) (g5 _ _ hr.heap.below.size (fun k h1 h2 => .inr ⟨h1, h2⟩)) g3 g2 g4)
      · cases h2
    · cases h
  · cases h
def hkMapC (c : MapC P) : Hook P := ⟨mapcOn c, fun S id0 o κ => mapcRun c S o κ, fun _ h => mapc_ok h⟩
end
end Ex
namespace Ex
open Go Go.RowKit
section
variable {P : Program} {w0 : Org} {w : World} {N : Nat} {S : AS} {o : Oper} {ρ : Type} {r : ρ} {id0 : Nat}
def byteI (s : ByteArray) (n : Int) : Int := ((s.data.toList.getD n.toNat 0).toNat : Int)
def andI (k : IntKind) (a b : Int) : Int := k.wrap ((BitVec.ofInt k.bits a &&& BitVec.ofInt k.bits b).toNat : Int)
def isStr (P : Program) (t : TypeId) : Bool := match P.underlying t with
  | some .string => true
  | _ => false
theorem isStr_ok {t : TypeId} (h : isStr P t = true) : P.underlying t = some .string := by
  unfold isStr at h
  split at h
  · assumption
  · cases h
def strOn (S : AS) (o : Oper) : Bool := match o.op with
  | .index _ x _ => match S.ev x with
    | .v (.string _) => true
    | _ => false
  | .slice _ x _ _ none => match S.ev x with
    | .v (.string _) => true
    | _ => false
  | .convert _ _ x => match S.ev x with
    | .own _ => true
    | .row _ _ _ => true
    | _ => false
  | .binOp .and _ _ _ _ => true
  | _ => false
def srcB (S : AS) (x : PV) : Option (List Int) := match srcRow S [.int .u8] x with
  | some (l, _) => some l
  | none => none
def strRun (P : Program) (S : AS) (o : Oper) (κ : PV → Option ρ) : Option ρ := match o.op with
  | .index t x i => match S.ev x, S.ev i with
    | .v (.string s), .v (.int _ n) => bif isStr P t then bif decide (0 ≤ n) && decide (n < (s.size : Int)) then κ (.v (.int .u8 (byteI s n))) else none else none
    | _, _ => none
  | .slice t x lo hi none => match S.ev x, bound (lo.map S.ev), bound (hi.map S.ev) with
    | .v (.string s), some lo, some hi => bif isStr P t then match lo, hi with
        | some a, some b => bif decide (0 ≤ a) && decide (a ≤ b) && decide (b ≤ (s.size : Int)) then κ (.v (.string (s.extract a.toNat b.toNat))) else none
        | some a, none => bif decide (0 ≤ a) && decide (a ≤ (s.size : Int)) then κ (.v (.string (s.extract a.toNat s.size))) else none
        | _, _ => none
      else none
    | _, _, _ => none
  | .convert t u x => match P.underlying t with
    | some (.slice e) => match P.underlying e with
      | some (.int .u8) => bif isStr P u then match srcB S (S.ev x) with
          | some l => bif l.isEmpty then none else κ (.v (.string (strOfNums l)))
          | none => none
        else none
      | _ => none
    | _ => none
  | .binOp .and _ x y _ => match S.ev x, S.ev y with
    | .v (.int k a), .v (.int k' b) => bif decide (k = k') then κ (.v (.int k (andI k a b))) else none
    | _, _ => none
  | _ => none
theorem str_ok {κ : PV → Option ρ} (h : strRun P S o κ = some r) : SoundV P w0 N S o κ r := by
  unfold strRun at h
  split at h
  · rename_i t x i ho
    split at h
    · rename_i s k n hx hi
      rcases cond_some h with ⟨ht, h⟩ | ⟨_, h2⟩
      · rcases cond_some h with ⟨hb, hh⟩ | ⟨_, h2⟩
        · rw [Bool.and_eq_true] at hb
          have e0 := of_decide_eq_true hb.1
          have e1 := of_decide_eq_true hb.2
          refine ⟨_, hh, fun m a w hr => ⟨_, run_of (s := Instr.index t (a.eval x) (a.eval i)) (by unfold execOp; simp only [ho]) ?_, .v⟩⟩
          rw [ev_v hr hx, ev_v hr hi, run_index_string w t s k n (isStr_ok ht), dif_pos ⟨e0, e1⟩]
          have hl : n.toNat < s.data.toList.length := by
            have : s.data.toList.length = s.size := by rw [Array.length_toList]; rfl
            omega
          simp only [byteI, List.getD_eq_getElem?_getD, List.getElem?_eq_getElem hl, Option.getD_some]
          rfl
        · cases h2
      · cases h2
    · cases h
  · rename_i t x lo hi ho
    split at h
    · rename_i s lo' hi' hx hlo hhi
      rcases cond_some h with ⟨ht, h⟩ | ⟨_, h2⟩
      · have hu := isStr_ok ht
        have hsa : ∀ v lo hi w, (Instr.sliceAt t v lo hi none).run P w = (Instr.slice t v lo hi none).run P w := fun v lo hi w => by
          simp only [Instr.sliceAt, Sem.run_bind, run_underlying hu, Result.andThen_ok]
        have hrun : ∀ a : Act, ∀ v w, (Instr.slice t (a.eval x) (lo.map a.eval) (hi.map a.eval) none).run P w = .ok v w → (execOp a.eval o).run P w = .ok (.value v) w := fun a v w hv =>
          run_of (s := Instr.sliceAt t (a.eval x) (lo.map a.eval) (hi.map a.eval) none) (by unfold execOp; simp only [ho, Option.map_none]) (by rw [hsa]; exact hv)
        split at h
        · rename_i al b hq
          rcases cond_some h with ⟨hb, hh⟩ | ⟨_, h2⟩
          · simp only [Bool.and_eq_true, decide_eq_true_eq] at hb
            refine ⟨_, hh, fun m a w hr => ?_⟩
            obtain ⟨k1, b1⟩ := bound_ok hr hlo
            obtain ⟨k2, b2⟩ := bound_ok hr hhi
            refine ⟨_, hrun a _ w ?_, .v⟩
            rw [ev_v hr hx, b1, b2]
            exact run_slice_string w t s k1 k2 al b hu hb.1.1 hb.1.2 hb.2
          · cases h2
        · rename_i al hq
          rcases cond_some h with ⟨hb, hh⟩ | ⟨_, h2⟩
          · simp only [Bool.and_eq_true, decide_eq_true_eq] at hb
            refine ⟨_, hh, fun m a w hr => ?_⟩
            obtain ⟨k1, b1⟩ := bound_ok hr hlo
            obtain ⟨k2, b2⟩ := bound_ok hr hhi
            refine ⟨_, hrun a _ w ?_, .v⟩
            rw [ev_v hr hx, b1, b2]
            have := run_slice_string_from_if (P := P) w t s k1 al hu
            simp only [Option.map_some, Option.map_none]
            rw [this, if_pos ⟨by omega, by omega⟩]
          · cases h2
        · cases h
      · cases h2
    · cases h
  · rename_i t u x ho
    split at h
    · rename_i e hu
      split at h
      · rename_i he
        rcases cond_some h with ⟨hd, h⟩ | ⟨_, h2⟩
        · split at h
          · rename_i l hl
            rcases cond_some h with ⟨_, h2⟩ | ⟨hne, hh⟩
            · cases h2
            · refine ⟨_, hh, fun m a w hr => ⟨_, run_of (s := convert t u (a.eval x)) (by unfold execOp; simp only [ho]) ?_, .v⟩⟩
              unfold srcB at hl
              split at hl
              · rename_i l' f hs
                cases hl
                have h3 := src_is hr hs (hr.ev x)
                simp only [SKIs] at h3
                obtain ⟨A, c, hv, hc, hrow⟩ := h3
                rw [hv]
                have hlen : 0 < l.length := by cases l with | nil => cases hne | cons _ _ => simp
                obtain ⟨b, of, cs, rfl, hok, hcl, hca, ht⟩ := hrow 0 l[0] (List.getElem?_eq_getElem hlen)
                refine run_convert_bytes_arg w t e hu he b of l.length c l rfl (fun i hi => ?_) u (isStr_ok hd)
                obtain ⟨b', of', cs', hA, _, hcl', hca', ht'⟩ := hrow i l[i] (List.getElem?_eq_getElem hi)
                cases hA
                simp only [TupIs, SKIs] at ht'
                obtain ⟨q, rfl, rfl⟩ := ht'
                have := hca' 0 _ rfl
                rw [List.getD_eq_getElem?_getD, List.getElem?_eq_getElem hi, Option.getD_some]
                simpa using this
              · cases hl
          · cases h
        · cases h2
      · cases h
    · cases h
  · rename_i t x y yt ho
    split at h
    · rename_i k a0 k' b0 hx hy
      rcases cond_some h with ⟨hk, hh⟩ | ⟨_, h2⟩
      · have := of_decide_eq_true hk
        subst this
        refine ⟨_, hh, fun m a w hr => ⟨_, run_bin ho (ev_v hr hx) (ev_v hr hy) guard_int ?_, .v⟩⟩
        simp [binOp, Op.intBits, andI]
      · cases h2
    · cases h
  · cases h
def hkStr (P : Program) : Hook P := ⟨strOn, fun S id0 o κ => strRun P S o fun p => κ ⟨p, []⟩, fun _ h => (str_ok h).sound⟩
end
end Ex
namespace Ex
open Go
set_option maxHeartbeats 0
noncomputable def forms_4_c : Code := Tryz.f166.body.getD .skip
def forms_4 (k : Nat) : ((Nat × Nat)) → Option (List (Nat × Nat)) := fun (d) =>
  some ([(d.1, d.2 + 8 + 0), (d.1, d.2 + 8 + 1), (d.1, d.2 + 8 + 2)])
noncomputable def forms_4_X : Cx Tryz.prog [.one (.row 135 [.adr])] := ⟨fun k => ⟨[], [], []⟩, Tryz.f166.ntmps, Tryz.f166.results, []⟩
theorem forms_4_eq (k : Nat) (x : (Nat × Nat)) : forms_4 k x = runF forms_4_X k forms_4_c [.one (.sc .adr)] x := by kernel_rfl
noncomputable def forms_4_e (k : Nat) : Ent Tryz.prog := ⟨166, [.one (.sc .adr)], [.one (.row 135 [.adr])], forms_4 k, calls_of (X := forms_4_X) (k := k) (c := forms_4_c) Tryz.func166 (by kernel_rfl) (by kernel_rfl) (by kernel_rfl) (LoopEqs.all (show LoopEqs forms_4_X forms_4_c forms_4_X.L 0 from trivial)) (fun x => forms_4_eq k x), fun _ _ => by kernel_rfl⟩
noncomputable def forms_1_c : Code := Tryz.f163.body.getD .skip
def forms_1 (k : Nat) : ((Nat × Nat)) → Option (List (Nat × Nat)) := fun (d) =>
  some ([(d.1, d.2 + 2 + 0)])
noncomputable def forms_1_X : Cx Tryz.prog [.one (.row 135 [.adr])] := ⟨fun k => ⟨[], [], []⟩, Tryz.f163.ntmps, Tryz.f163.results, []⟩
theorem forms_1_eq (k : Nat) (x : (Nat × Nat)) : forms_1 k x = runF forms_1_X k forms_1_c [.one (.sc .adr)] x := by kernel_rfl
noncomputable def forms_1_e (k : Nat) : Ent Tryz.prog := ⟨163, [.one (.sc .adr)], [.one (.row 135 [.adr])], forms_1 k, calls_of (X := forms_1_X) (k := k) (c := forms_1_c) Tryz.func163 (by kernel_rfl) (by kernel_rfl) (by kernel_rfl) (LoopEqs.all (show LoopEqs forms_1_X forms_1_c forms_1_X.L 0 from trivial)) (fun x => forms_1_eq k x), fun _ _ => by kernel_rfl⟩
noncomputable def forms_2_c : Code := Tryz.f164.body.getD .skip
def forms_2 (k : Nat) : ((Nat × Nat)) → Option (List (Nat × Nat)) := fun (d) =>
  some ([(d.1, d.2 + 2 + 0), (d.1, d.2 + 2 + 5)])
noncomputable def forms_2_X : Cx Tryz.prog [.one (.row 135 [.adr])] := ⟨fun k => ⟨[], [], []⟩, Tryz.f164.ntmps, Tryz.f164.results, []⟩
theorem forms_2_eq (k : Nat) (x : (Nat × Nat)) : forms_2 k x = runF forms_2_X k forms_2_c [.one (.sc .adr)] x := by kernel_rfl
noncomputable def forms_2_e (k : Nat) : Ent Tryz.prog := ⟨164, [.one (.sc .adr)], [.one (.row 135 [.adr])], forms_2 k, calls_of (X := forms_2_X) (k := k) (c := forms_2_c) Tryz.func164 (by kernel_rfl) (by kernel_rfl) (by kernel_rfl) (LoopEqs.all (show LoopEqs forms_2_X forms_2_c forms_2_X.L 0 from trivial)) (fun x => forms_2_eq k x), fun _ _ => by kernel_rfl⟩
noncomputable def forms_3_c : Code := Tryz.f165.body.getD .skip
def forms_3 (k : Nat) : ((Nat × Nat)) → Option (List (Nat × Nat)) := fun (d) =>
  some ([(d.1, d.2 + 2 + 0), (d.1, d.2 + 2 + 1), (d.1, d.2 + 2 + 2), (d.1, d.2 + 2 + 3), (d.1, d.2 + 2 + 4), (d.1, d.2 + 2 + 5)])
noncomputable def forms_3_X : Cx Tryz.prog [.one (.row 135 [.adr])] := ⟨fun k => ⟨[], [], []⟩, Tryz.f165.ntmps, Tryz.f165.results, []⟩
theorem forms_3_eq (k : Nat) (x : (Nat × Nat)) : forms_3 k x = runF forms_3_X k forms_3_c [.one (.sc .adr)] x := by kernel_rfl
noncomputable def forms_3_e (k : Nat) : Ent Tryz.prog := ⟨165, [.one (.sc .adr)], [.one (.row 135 [.adr])], forms_3 k, calls_of (X := forms_3_X) (k := k) (c := forms_3_c) Tryz.func165 (by kernel_rfl) (by kernel_rfl) (by kernel_rfl) (LoopEqs.all (show LoopEqs forms_3_X forms_3_c forms_3_X.L 0 from trivial)) (fun x => forms_3_eq k x), fun _ _ => by kernel_rfl⟩
noncomputable def forms_5_c : Code := Tryz.f167.body.getD .skip
def forms_5 (k : Nat) : (((Nat × Nat)) × Unit) → Option (List (Nat × Nat)) := fun (d, t1) =>
  (forms_4 k d).bind fun o_1 =>
    bif decide ((List.length o_1 + List.length [(d.1, d.2 + 8 + 4)]) * 8 ≤ 140737488355328) then
      some (o_1 ++ [(d.1, d.2 + 8 + 4)])
    else
      none
noncomputable def forms_5_X : Cx Tryz.prog [.one (.row 135 [.adr])] := ⟨fun k => ⟨[forms_4_e k], [], []⟩, Tryz.f167.ntmps, Tryz.f167.results, []⟩
theorem forms_5_eq (k : Nat) (x : ((Nat × Nat)) × Unit) : forms_5 k x = runF forms_5_X k forms_5_c [.one (.sc .adr), .one (.ptr [.fnc 166])] x := by kernel_rfl
noncomputable def forms_5_e (k : Nat) : Ent Tryz.prog := ⟨167, [.one (.sc .adr), .one (.ptr [.fnc 166])], [.one (.row 135 [.adr])], forms_5 k, calls_of (X := forms_5_X) (k := k) (c := forms_5_c) Tryz.func167 (by kernel_rfl) (by kernel_rfl) (by kernel_rfl) (LoopEqs.all (show LoopEqs forms_5_X forms_5_c forms_5_X.L 0 from trivial)) (fun x => forms_5_eq k x), fun _ _ => by kernel_rfl⟩
noncomputable def forms_6_c : Code := Tryz.f168.body.getD .skip
def forms_6 (k : Nat) : (((Nat × Nat)) × Unit) → Option (List (Nat × Nat)) := fun (d, t1) =>
  (forms_4 k d).bind fun o_1 =>
    bif decide ((List.length o_1 + List.length [(d.1, d.2 + 8 + 3), (d.1, d.2 + 8 + 4)]) * 8 ≤ 140737488355328) then
      some (o_1 ++ [(d.1, d.2 + 8 + 3), (d.1, d.2 + 8 + 4)])
    else
      none
noncomputable def forms_6_X : Cx Tryz.prog [.one (.row 135 [.adr])] := ⟨fun k => ⟨[forms_4_e k], [], []⟩, Tryz.f168.ntmps, Tryz.f168.results, []⟩
theorem forms_6_eq (k : Nat) (x : ((Nat × Nat)) × Unit) : forms_6 k x = runF forms_6_X k forms_6_c [.one (.sc .adr), .one (.ptr [.fnc 166])] x := by kernel_rfl
noncomputable def forms_6_e (k : Nat) : Ent Tryz.prog := ⟨168, [.one (.sc .adr), .one (.ptr [.fnc 166])], [.one (.row 135 [.adr])], forms_6 k, calls_of (X := forms_6_X) (k := k) (c := forms_6_c) Tryz.func168 (by kernel_rfl) (by kernel_rfl) (by kernel_rfl) (LoopEqs.all (show LoopEqs forms_6_X forms_6_c forms_6_X.L 0 from trivial)) (fun x => forms_6_eq k x), fun _ _ => by kernel_rfl⟩
end Ex
namespace Ex
open Go Go.RowKit
section
variable {P : Program} {ops : Array Oper} {Q : Exit → Act → World → Prop} {md : Region.Mode}
def cntF : List Bool → Nat
  | [] => 0
  | b :: r => (if b then 0 else 1) + cntF r
theorem cntF_set : ∀ {L : List Bool} {i : Nat}, L[i]? = some false → cntF (L.set i true) + 1 = cntF L
  | [], i, h => by simp at h
  | b :: r, 0, h => by simp at h; subst h; simp [cntF]; omega
  | b :: r, i + 1, h => by
    have := cntF_set (L := r) (i := i) (by simpa using h)
    simp only [List.set_cons_succ, cntF]
    omega
theorem cntF_zero : ∀ {L : List Bool}, cntF L = 0 → L = List.replicate L.length true
  | [], _ => rfl
  | b :: r, h => by
    simp only [cntF] at h
    cases b with
    | true => rw [cntF_zero (L := r) (by simpa using h)]; simp [List.replicate_succ]
    | false => simp at h
theorem cntF_pos : ∀ {L : List Bool}, 0 < cntF L → ∃ i : Nat, L[i]? = some false ∧ ∀ j, j < i → L[j]? = some true
  | [], h => by simp [cntF] at h
  | b :: r, h => by
    cases b with
    | false => exact ⟨0, rfl, fun j hj => by omega⟩
    | true =>
      obtain ⟨i, h1, h2⟩ := cntF_pos (L := r) (by simpa [cntF] using h)
      refine ⟨i + 1, by simpa using h1, fun j hj => ?_⟩
      cases j with
      | zero => rfl
      | succ j => simpa using h2 j (by omega)
def acL (md : Region.Mode) : Nat → List Oper → Bool
  | _, [] => true
  | i, o :: r => (match o.guard with | none => true | some _ => false) && (o.after.toList.all (fun e => !Region.binds md e || Nat.blt e.on i) && acL md (i + 1) r)
theorem acL_ok : ∀ {l : List Oper} {i j : Nat} {o : Oper}, acL md i l = true → l[j]? = some o → o.guard = none ∧ ∀ e ∈ o.after, Region.binds md e = true → e.on < i + j
  | [], i, j, o, _, h => by simp at h
  | x :: r, i, j, o, h, hj => by
    simp only [acL, Bool.and_eq_true] at h
    cases j with
    | zero =>
      simp at hj
      subst hj
      have hg : x.guard = none := by
        cases hg : x.guard with
        | none => rfl
        | some q => rw [hg] at h; cases h.1
      refine ⟨hg, fun e he hb => ?_⟩
      have := List.all_eq_true.1 h.2.1 e (by simpa using he)
      rw [hb] at this
      have : Nat.blt e.on i = true := by simpa using this
      exact Nat.le_of_ble_eq_true this
    | succ j =>
      have := acL_ok h.2.2 (by simpa using hj)
      rwa [show i + 1 + j = i + (j + 1) by omega] at this
theorem acB_ok (h : acL md 0 ops.toList = true) : ∀ (i : Nat) o, ops[i]? = some o → o.guard = none ∧ ∀ e ∈ o.after, Region.binds md e = true → e.on < i := fun i o ho => by
  have := acL_ok h (j := i) (o := o) (by simpa using ho)
  rwa [Nat.zero_add] at this
theorem any_inv (I : List Bool → Act → World → Prop) (hac : ∀ (i : Nat) o, ops[i]? = some o → o.guard = none ∧ ∀ e ∈ o.after, Region.binds md e = true → e.on < i)
    (hstep : ∀ (L : List Bool) a w (i : Nat) o, L.length = ops.size → ops[i]? = some o → L[i]? = some false → (∀ e ∈ o.after, Region.binds md e = true → L[e.on]? = some true) → I L a w → o.wp P a w (fun a' w' => I (L.set i true) a' w') Q)
    (hend : ∀ a w, I (List.replicate ops.size true) a w → Q .normal a w) : ∀ (fuel : Nat) (L : List Bool) a w, L.length = ops.size → cntF L = fuel → I L a w → wpAny P md ops Q fuel L.toArray a w
  | fuel, L, a, w, hL, hc, hI => by
    have get : ∀ (i : Nat) (d : Bool), i < L.length → L.toArray.getD i d = L[i]?.getD d := fun i d hi => by simp [Array.getD, hi]
    have rdy : ∀ i : Nat, i ∈ Region.ready md ops L.toArray ↔ L[i]? = some false ∧ ∃ o, ops[i]? = some o ∧ ∀ e ∈ o.after, Region.binds md e = true → L[e.on]? = some true := by
      intro i
      rw [mem_ready]
      constructor
      · rintro ⟨h1, o, h2, h3⟩
        have hi : i < L.length := by rw [hL]; exact (Array.getElem?_eq_some_iff.1 h2).1
        rw [get i true hi, List.getElem?_eq_getElem hi] at h1
        refine ⟨by rw [List.getElem?_eq_getElem hi]; simpa using h1, o, h2, fun e he hb => ?_⟩
        have hlt : e.on < L.length := by have := (hac i o h2).2 e he hb; omega
        have := h3 e he hb
        rw [get e.on false hlt, List.getElem?_eq_getElem hlt] at this
        rw [List.getElem?_eq_getElem hlt]
        simpa using this
      · rintro ⟨h1, o, h2, h3⟩
        have hi : i < L.length := (List.getElem?_eq_some_iff.1 h1).1
        refine ⟨by rw [get i true hi, h1]; rfl, o, h2, fun e he hb => ?_⟩
        have := h3 e he hb
        rw [get e.on false (List.getElem?_eq_some_iff.1 this).1, this]; rfl
    have nil : cntF L = 0 → Q .normal a w := fun h0 => hend a w (by rw [← hL, ← cntF_zero h0]; exact hI)
    have some_ : 0 < cntF L → Region.ready md ops L.toArray ≠ [] := fun h0 he => by
      obtain ⟨i, h1, h2⟩ := cntF_pos h0
      have hi : i < ops.size := by rw [← hL]; exact (List.getElem?_eq_some_iff.1 h1).1
      have : i ∈ Region.ready md ops L.toArray := (rdy i).2 ⟨h1, ops[i], Array.getElem?_eq_getElem hi, fun e he hb => h2 e.on ((hac i _ (Array.getElem?_eq_getElem hi)).2 e he hb)⟩
      rw [he] at this
      cases this
    cases fuel with
    | zero =>
      refine ⟨?_, nil hc⟩
      refine List.eq_nil_iff_forall_not_mem.2 fun i hi => ?_
      obtain ⟨h1, _⟩ := (rdy i).1 hi
      have := cntF_set h1
      omega
    | succ fuel =>
      refine ⟨fun he => absurd he (some_ (by omega)), fun i hi => ?_⟩
      obtain ⟨h1, o, h2, h3⟩ := (rdy i).1 hi
      unfold wpOp
      rw [h2]
      simp only [Region.wanted, (hac i o h2).1, if_true]
      left
      refine Oper.wp_mono (fun a' w' h => ?_) (hstep L a w i o hL h2 h1 h3 hI)
      have hset : L.toArray.setIfInBounds i true = (L.set i true).toArray := by simp
      rw [hset]
      exact any_inv I hac hstep hend fuel (L.set i true) a' w' (by simp [hL]) (by have := cntF_set h1; omega) h
theorem region_inv (I : List Bool → Act → World → Prop) {id : Nat} {a : Act} {w : World} (hm : P.follows .mixedOrders = true) (hac : ∀ (i : Nat) o, ops[i]? = some o → o.guard = none ∧ ∀ e ∈ o.after, Region.binds .any e = true → e.on < i)
    (hstep : ∀ (L : List Bool) a w (i : Nat) o, L.length = ops.size → ops[i]? = some o → L[i]? = some false → (∀ e ∈ o.after, Region.binds .any e = true → L[e.on]? = some true) → I L a w → o.wp P a w (fun a' w' => I (L.set i true) a' w') Q)
    (hend : ∀ a w, I (List.replicate ops.size true) a w → Q .normal a w) (h0 : I (List.replicate ops.size false) a { w with drawn := w.drawn + 1 }) : (Code.region id ops true).wp P Q a w := by
  refine wp_region_any hm ?_
  have h1 : Array.replicate ops.size false = (List.replicate ops.size false).toArray := by simp
  rw [h1]
  refine any_inv I hac hstep hend _ _ _ _ (by simp) ?_ h0
  generalize ops.size = n
  induction n with
  | zero => rfl
  | succ n ih => simp only [List.replicate_succ, cntF, ih]; simp; omega
end
open Tryz
mutual
def exV : PV → Option Value
  | .v x => some x
  | .agg cs => match exVs cs with
    | some l => some (.agg l.toArray)
    | none => none
  | _ => none
def exVs : List PV → Option (List Value)
  | [] => some []
  | x :: r => match exV x, exVs r with
    | some v, some vs => some (v :: vs)
    | _, _ => none
end
mutual
theorem exV_ok {m : Nm} {B0 : Nat} {w : World} : ∀ {p : PV} {v u : Value}, exV p = some v → RepV m B0 w p u → u = v
  | .v x, v, u, h, hr => by simp only [exV] at h; cases h; cases hr; rfl
  | .agg cs, v, u, h, hr => by
    simp only [exV] at h
    split at h
    · rename_i l hl
      cases h
      cases hr with | agg hr =>
      rw [exVs_ok hl hr]
    · cases h
  | .un, v, u, h, hr => by simp [exV] at h
  | .row _ _ _, v, u, h, hr => by simp [exV] at h
  | .own _, v, u, h, hr => by simp [exV] at h
  | .ptr _ _, v, u, h, hr => by simp [exV] at h
  | .rptr _ _ _ _, v, u, h, hr => by simp [exV] at h
  | .eptr _ _ _ _, v, u, h, hr => by simp [exV] at h
  | .mp _, v, u, h, hr => by simp [exV] at h
  | .ocut _ _ _, v, u, h, hr => by simp [exV] at h
  | .prow _ _, v, u, h, hr => by simp [exV] at h
  | .pcel _ _, v, u, h, hr => by simp [exV] at h
  | .rmap _ _, v, u, h, hr => by simp [exV] at h
  | .fn _ _, v, u, h, hr => by simp [exV] at h
  | .tup _, v, u, h, hr => by simp [exV] at h
theorem exVs_ok {m : Nm} {B0 : Nat} {w : World} : ∀ {p : List PV} {v u : List Value}, exVs p = some v → RepVs m B0 w p u → u = v
  | [], v, u, h, hr => by simp only [exVs] at h; cases h; cases hr; rfl
  | x :: r, v, u, h, hr => by
    cases hr with | cons hx hs =>
    simp only [exVs] at h
    split at h
    · rename_i v1 v2 h1 h2
      cases h
      rw [exV_ok h1 hx, exVs_ok h2 hs]
    · cases h
end
theorem rep0 {N : Nat} {l : List (Nat × Value)} {a : Act} {w : World} (hgk : GK w) (hs : a.tmps.size = N) (hd : a.defers = []) (hl : ∀ e ∈ l, a.tmps[e.1]? = some e.2) :
    Rep ⟨w, fun _ => none, hgk⟩ N ⟨fun _ => undef, fun _ => 0, fun _ => False⟩ ⟨slotOf (l.map fun e => (e.1, .v e.2)), fun _ => .no⟩ a w := by
  refine ⟨hs, hd, fun t => ?_, ⟨fun i => trivial, fun i j k _ h => (by cases h), fun k hk => hk.elim, Below.refl _ _, fun k ob hk => (by cases hk)⟩⟩
  induction l with
  | nil => exact .un
  | cons e l ih =>
    show RepV _ _ w (bif Nat.beq t e.1 then .v e.2 else slotOf (l.map fun e => (e.1, .v e.2)) t) _
    cases hb : Nat.beq t e.1 with
    | true =>
      rw [Nat.eq_of_beq_eq_true hb]
      have := hl e List.mem_cons_self
      have hlt := (Array.getElem?_eq_some_iff.1 this).1
      have hv : a.tmps.getD e.1 undef = e.2 := by
        rw [Array.getD_eq_getD_getElem?, this]; rfl
      show RepV _ _ w (.v e.2) _
      rw [hv]
      exact .v
    | false => exact ih (fun e he => hl e (List.mem_cons_of_mem _ he))
theorem run_exV {P : Program} {N : Nat} {l : List (Nat × Value)} {a : Act} {w : World} {o : Oper} {v : Value} {hgk : GK w} (h : SoundV P ⟨w, fun _ => none, hgk⟩ N ⟨slotOf (l.map fun e => (e.1, .v e.2)), fun _ => .no⟩ o exV v) (hs : a.tmps.size = N) (hd : a.defers = []) (hl : ∀ e ∈ l, a.tmps[e.1]? = some e.2) : (execOp a.eval o).run P w = .ok (.value v) w := by
  obtain ⟨p, hp, hr⟩ := h
  obtain ⟨u, hu, hv⟩ := hr _ _ _ (rep0 hgk hs hd hl)
  rw [hu, exV_ok hp hv]
def fv (f : FuncId) : Value := .func (.func f) #[] #[]
def fc (f : FuncId) (H : Nat) : Value := .func (.func f) #[] #[.pointer (some ⟨H, 0, none⟩)]
def lkV (H : Nat) : Int × Int → Value
  | (1, 1) => .agg #[.string ⟨#[97]⟩, .string ⟨#[99, 111, 110, 116, 97, 99, 116]⟩, fv 165]
  | (2, 1) => .agg #[.string ⟨#[100]⟩, .string ⟨#[99, 111, 110, 116, 97, 99, 116]⟩, fv 163]
  | (3, 1) => .agg #[.string ⟨#[99]⟩, .string ⟨#[99, 111, 110, 116, 97, 99, 116]⟩, fv 164]
  | (1, 2) => .agg #[.string ⟨#[97]⟩, .string ⟨#[114, 97, 110, 103, 101]⟩, fc 168 H]
  | (2, 2) => .agg #[.string ⟨#[100]⟩, .string ⟨#[114, 97, 110, 103, 101]⟩, fv 166]
  | (3, 2) => .agg #[.string ⟨#[99]⟩, .string ⟨#[114, 97, 110, 103, 101]⟩, fc 167 H]
  | _ => undef
def fSlot : Nat → Option Nat
  | 0 => some 9
  | 1 => some 10
  | 2 => some 11
  | 3 => some 12
  | 5 => some 13
  | 6 => some 14
  | 7 => some 15
  | 9 => some 16
  | 10 => some 17
  | 11 => some 18
  | 13 => some 19
  | 14 => some 20
  | 15 => some 21
  | 17 => some 22
  | 18 => some 23
  | 19 => some 24
  | 21 => some 25
  | 22 => some 26
  | 23 => some 27
  | 25 => some 28
  | 26 => some 0
  | _ => none
def fVal (H bm : Nat) : Nat → Value
  | 0 => .map (some bm)
  | 1 => keyV 1 1
  | 2 => fv 165
  | 3 => lkV H (1, 1)
  | 5 => keyV 2 1
  | 6 => fv 163
  | 7 => lkV H (2, 1)
  | 9 => keyV 3 1
  | 10 => fv 164
  | 11 => lkV H (3, 1)
  | 13 => keyV 1 2
  | 14 => fc 168 H
  | 15 => lkV H (1, 2)
  | 17 => keyV 2 2
  | 18 => fv 166
  | 19 => lkV H (2, 2)
  | 21 => keyV 3 2
  | 22 => fc 167 H
  | 23 => lkV H (3, 2)
  | 25 => .map (some bm)
  | 26 => .map (some bm)
  | _ => undef
def fIns : Nat → Option (Int × Int)
  | 4 => some (1, 1)
  | 8 => some (2, 1)
  | 12 => some (3, 1)
  | 16 => some (1, 2)
  | 20 => some (2, 2)
  | 24 => some (3, 2)
  | _ => none
def fBase (H : Nat) : List (Nat × Value) := [(1, fv 163), (2, fv 164), (3, fv 165), (4, .pointer (some ⟨H, 0, none⟩)), (5, fc 167 H), (6, fc 168 H)]
theorem fSlot_inj : ∀ i, i < 27 → ∀ j, j < 27 → fSlot i ≠ none → fSlot i = fSlot j → i = j := by decide
theorem fIns_inj : ∀ i, i < 27 → ∀ j, j < 27 → fIns i ≠ none → fIns i = fIns j → i = j := by decide
theorem fBase_ne (H : Nat) : ∀ e ∈ fBase H, ∀ i, i < 27 → fSlot i ≠ some e.1 := by
  intro e he i hi
  have : e.1 = 1 ∨ e.1 = 2 ∨ e.1 = 3 ∨ e.1 = 4 ∨ e.1 = 5 ∨ e.1 = 6 := by
    simp only [fBase, List.mem_cons, List.not_mem_nil, or_false] at he
    rcases he with rfl | rfl | rfl | rfl | rfl | rfl <;> simp
  have key : ∀ t, 1 ≤ t → t ≤ 6 → ∀ i, i < 27 → fSlot i ≠ some t := by
    intro t h1 h2
    have : t = 1 ∨ t = 2 ∨ t = 3 ∨ t = 4 ∨ t = 5 ∨ t = 6 := by omega
    rcases this with rfl | rfl | rfl | rfl | rfl | rfl <;> decide
  exact key e.1 (by omega) (by omega) i hi
structure Sl (H bm : Nat) (L : List Bool) (a : Act) : Prop where
  len : L.length = 27
  size : a.tmps.size = 29
  defs : a.defers = []
  base : ∀ e ∈ fBase H, a.tmps[e.1]? = some e.2
  done : ∀ i t, fSlot i = some t → L[i]? = some true → a.tmps[t]? = some (fVal H bm i)
theorem set_get {L : List Bool} {i j : Nat} (h : (L.set i true)[j]? = some true) (hn : j ≠ i) : L[j]? = some true := by rwa [List.getElem?_set_ne (Ne.symm hn)] at h
theorem Sl.put {H bm : Nat} {L : List Bool} {a : Act} (h : Sl H bm L a) {i t : Nat} (hi : i < 27) (ht : fSlot i = some t) (hlt : t < 29) : Sl H bm (L.set i true) (a.put (some t) (fVal H bm i)) := by
  have hL : L.length = 27 := h.len
  refine ⟨by rw [List.length_set]; exact hL, by simp [Act.put, h.size], h.defs, fun e he => ?_, fun j u hj hLj => ?_⟩
  · have hne : e.1 ≠ t := fun e' => fBase_ne H e he i hi (by rw [e']; exact ht)
    show (a.tmps.setIfInBounds t _)[e.1]? = _
    rw [Array.getElem?_setIfInBounds_ne (Ne.symm hne)]
    exact h.base e he
  · show (a.tmps.setIfInBounds t _)[u]? = _
    by_cases hji : j = i
    · subst hji
      rw [ht] at hj
      cases hj
      rw [Array.getElem?_setIfInBounds_self_of_lt (by rw [h.size]; exact hlt)]
    · have hjl : j < 27 := by
        have := (List.getElem?_eq_some_iff.1 hLj).1
        rw [List.length_set, hL] at this; exact this
      have hne : u ≠ t := fun e' => hji (fSlot_inj j hjl i hi (by rw [hj]; simp) (by rw [hj, ht, e']))
      rw [Array.getElem?_setIfInBounds_ne (Ne.symm hne)]
      exact h.done j u hj (set_get hLj hji)
theorem Sl.skip {H bm : Nat} {L : List Bool} {a : Act} (h : Sl H bm L a) {i : Nat} (ht : fSlot i = none) : Sl H bm (L.set i true) a :=
  ⟨by rw [List.length_set]; exact h.len, h.size, h.defs, h.base, fun j u hj hLj => h.done j u hj (set_get hLj (fun e => by rw [e, ht] at hj; cases hj))⟩
structure FI (W : World) (H bm : Nat) (L : List Bool) (a : Act) (w : World) : Prop where
  gk : GK W
  wm : W.heap.size = bm
  sl : Sl H bm L a
  os : w.os = W.os ∧ w.tape = W.tape ∧ w.output = W.output
  oth : ∀ k, k < bm → w.heap[k]? = W.heap[k]?
  off : L[0]? = some false → w.heap = W.heap ∧ ∀ i p, fIns i = some p → L[i]? = some false
  on : L[0]? = some true → w.heap.size = bm + 1 ∧ ∃ es c, ∃ l : List (Int × Int), (es.toList.map (·.born) = List.range l.length ∧ c = l.length) ∧ w.heap[bm]? = some (.map es c) ∧ es.toList.map (fun e => (e.key, e.val)) = l.map (fun p => (keyV p.1 p.2, lkV H p)) ∧ l.Nodup ∧ ∀ p, p ∈ l ↔ ∃ i, fIns i = some p ∧ L[i]? = some true
theorem Below.alloc_drawn (w : World) (ob : Obj) : Below w.heap.size w { (w.alloc ob) with drawn := w.drawn } := ⟨rfl, rfl, rfl, by show w.heap.size ≤ (w.heap.push ob).size; rw [Array.size_push]; omega, fun k hk => by
  show (w.heap.push ob)[k]? = _
  rw [Array.getElem?_push, if_neg (by omega)]⟩
theorem FI.gkw {W : World} {H bm : Nat} {L : List Bool} {a : Act} {w : World} (h : FI W H bm L a w) : GK w := by
  refine h.gk.below ⟨h.os.1, h.os.2.1, h.os.2.2, ?_, fun k hk => h.oth k (h.wm ▸ hk)⟩
  have hl : 0 < L.length := by rw [h.sl.len]; decide
  rw [h.wm]
  cases hb : L[0] with
  | false =>
    have := (h.off (by rw [List.getElem?_eq_getElem hl, hb])).1
    rw [this, h.wm]; exact Nat.le_refl _
  | true =>
    have := (h.on (by rw [List.getElem?_eq_getElem hl, hb])).1
    omega
theorem FI.pure {W : World} {H bm : Nat} {L : List Bool} {a : Act} {w : World} (h : FI W H bm L a w) {i t : Nat} (hi : i < 27) (h0 : i ≠ 0) (ht : fSlot i = some t) (hlt : t < 29) : FI W H bm (L.set i true) (a.put (some t) (fVal H bm i)) w := by
  have hin : fIns i = none := by
    have key : ∀ i, i < 27 → fSlot i ≠ none → fIns i = none := by decide
    exact key i hi (by rw [ht]; simp)
  have h0' : ∀ b, (L.set i true)[0]? = some b → L[0]? = some b := fun b hb => by rwa [List.getElem?_set_ne h0] at hb
  have hins : ∀ j p, fIns j = some p → (L.set i true)[j]? = L[j]? := fun j p hj => List.getElem?_set_ne (fun e => by rw [← e, hin] at hj; cases hj)
  refine ⟨h.gk, h.wm, h.sl.put hi ht hlt, h.os, h.oth, fun hz => ?_, fun hz => ?_⟩
  · obtain ⟨h1, h2⟩ := h.off (h0' _ hz)
    exact ⟨h1, fun j p hj => by rw [hins j p hj]; exact h2 j p hj⟩
  · obtain ⟨h1, es, c, l, hbn, h2, h3, h4, h5⟩ := h.on (h0' _ hz)
    refine ⟨h1, es, c, l, hbn, h2, h3, h4, fun p => ?_⟩
    rw [h5]
    constructor
    · rintro ⟨j, j1, j2⟩; exact ⟨j, j1, by rw [hins j p j1]; exact j2⟩
    · rintro ⟨j, j1, j2⟩; exact ⟨j, j1, by rw [← hins j p j1]; exact j2⟩
theorem FI.pstep {Q : Exit → Act → World → Prop} {W : World} {H bm : Nat} {L : List Bool} {a : Act} {w : World} (h : FI W H bm L a w) {i t : Nat} {o : Oper} (hi : i < 27) (h0 : i ≠ 0) (ht : fSlot i = some t) (hlt : t < 29) (hd : o.dst = some t) {l : List (Nat × Value)} (hl : ∀ e ∈ l, a.tmps[e.1]? = some e.2)
    (hs : SoundV Tryz.prog ⟨w, fun _ => none, h.gkw⟩ 29 ⟨slotOf (l.map fun e => (e.1, .v e.2)), fun _ => .no⟩ o exV (fVal H bm i)) : o.wp Tryz.prog a w (fun a' w' => FI W H bm (L.set i true) a' w') Q := by
  unfold Oper.wp
  rw [run_exV hs h.sl.size h.sl.defs hl, Oper.upon_value, hd]
  exact h.pure hi h0 ht hlt
noncomputable def fT : MapT Tryz.prog := ⟨130, 133, 129, .agg #[.string ByteArray.empty, .string ByteArray.empty, .nilFunc], Tryz.underlying130, ⟨_, Tryz.underlying133⟩,
  fun w a b c d => eqB_ok (P := Tryz.prog) (m := ⟨fun _ => undef, fun _ => 0, fun _ => False⟩) (B0 := 0) (w := w) (d := 40) (t := 133) (x := .agg [.v (.int .i64 a), .v (.int .i64 b)]) (y := .agg [.v (.int .i64 c), .v (.int .i64 d)]) (by kernel_rfl) (.agg (.cons .v (.cons .v .nil))) (.agg (.cons .v (.cons .v .nil))) 10000 (by decide) w,
  fun w e a b => by
    have key : ∀ d, (Instr.checkKey e (d + 1 + 1) 133 (keyV a b)).run Tryz.prog w = .ok () w := fun d => by
      unfold keyV
      simp [Instr.checkKey, run_underlying Tryz.underlying133, run_underlying Tryz.underlying3, go_sem]
    exact key 9998,
  fun w => zeroB_ok (by kernel_rfl) w⟩
theorem insert_g {w : World} {b : Nat} {es : Array MapEntry} {c : Nat} {x y : Int} {v : Value} (hb : w.heap[b]? = some (.map es c)) (hk : ∀ e ∈ es.toList, ∃ p q, e.key = keyV p q) (hn : ∀ e ∈ es.toList, e.key ≠ keyV x y) :
    (Instr.mapUpdate fT.t (.map (some b)) (keyV x y) v).run Tryz.prog w = .ok () { w with heap := w.heap.setIfInBounds b (.map (es.push { key := keyV x y, val := v, born := c }) (c + 1)) } := by
  obtain ⟨r, h1, _, h3⟩ := findKey_g fT x y w es.toList hk
  rw [h3 hn] at h1
  simp [Instr.mapUpdate, Sem.run_bind, run_underlying fT.hu, Result.andThen_ok, getObj, Sem.run, hb, fT.hc, h1]
  simp [setObj, Sem.run, hb]
theorem FI.make {Q : Exit → Act → World → Prop} {W : World} {H bm : Nat} {L : List Bool} {a : Act} {w : World} (h : FI W H bm L a w) (hbm : W.heap.size = bm) {o : Oper} (ho : o.op = .makeMap fT.t none) (hd : o.dst = some 9) (hL : L[0]? = some false) : o.wp Tryz.prog a w (fun a' w' => FI W H bm (L.set 0 true) a' w') Q := by
  obtain ⟨h1, h2⟩ := h.off hL
  have hsz : w.heap.size = bm := by rw [h1]; exact hbm
  have hrun : (execOp a.eval o).run Tryz.prog w = .ok (.value (.map (some w.heap.size))) (w.alloc (.map #[] 0)) := by
    unfold execOp
    simp only [ho]
    rfl
  unfold Oper.wp
  rw [hrun, Oper.upon_value, hd, hsz]
  have hL0 : L.length = 27 := h.sl.len
  refine ⟨h.gk, h.wm, h.sl.put (i := 0) (by decide) rfl (by decide), h.os, fun k hk => ?_, fun hz => ?_, fun _ => ?_⟩
  · rw [Below.heap_alloc _ _ _ (by omega)]; exact h.oth k hk
  · rw [List.getElem?_set_self (by omega)] at hz; cases hz
  · refine ⟨by show (w.heap.push _).size = _; rw [Array.size_push, hsz], #[], 0, [], ⟨rfl, rfl⟩, ?_, rfl, List.nodup_nil, fun p => ⟨fun h => (by cases h), ?_⟩⟩
    · show (w.heap.push _)[bm]? = _
      rw [← hsz, Array.getElem?_push_size]
    · rintro ⟨i, i1, i2⟩
      have hi0 : i ≠ 0 := fun e => by subst e; cases i1
      rw [List.getElem?_set_ne (Ne.symm hi0), h2 i p i1] at i2
      cases i2
theorem FI.ins {Q : Exit → Act → World → Prop} {W : World} {H bm : Nat} {L : List Bool} {a : Act} {w : World} (h : FI W H bm L a w) {i ks vs : Nat} {x y : Int} {o : Oper} (hi : i < 27) (hin : fIns i = some (x, y)) (ho : o.op = .insert fT.t (.tmp 9) (.tmp ks) (.tmp vs)) (hd : o.dst = none) (hL : L[i]? = some false)
    (hL0 : L[0]? = some true) (hk : a.tmps[ks]? = some (keyV x y)) (hv : a.tmps[vs]? = some (lkV H (x, y))) : o.wp Tryz.prog a w (fun a' w' => FI W H bm (L.set i true) a' w') Q := by
  obtain ⟨h1, es, c, l, hbn, h2, h3, h4, h5⟩ := h.on hL0
  have hm : a.tmps[9]? = some (.map (some bm)) := h.sl.done 0 9 rfl hL0
  have hi0 : i ≠ 0 := fun e => by subst e; cases hin
  have hxy : (x, y) ∉ l := fun hm => by
    obtain ⟨j, j1, j2⟩ := (h5 _).1 hm
    have hjl : j < 27 := by rw [← h.sl.len]; exact (List.getElem?_eq_some_iff.1 j2).1
    have : j = i := fIns_inj j hjl i hi (by rw [j1]; simp) (by rw [j1, hin])
    subst this
    rw [hL] at j2; cases j2
  have hkeys : ∀ e ∈ es.toList, ∃ p ∈ l, e.key = keyV p.1 p.2 := fun e he => by
    have : (e.key, e.val) ∈ es.toList.map fun e => (e.key, e.val) := List.mem_map.2 ⟨e, he, rfl⟩
    rw [h3] at this
    obtain ⟨p, hp, e2⟩ := List.mem_map.1 this
    exact ⟨p, hp, (congrArg Prod.fst e2).symm⟩
  have hrun := insert_g (v := lkV H (x, y)) (x := x) (y := y) h2 (fun e he => by obtain ⟨p, _, hp⟩ := hkeys e he; exact ⟨_, _, hp⟩) (fun e he he' => by
    obtain ⟨p, hp, hpe⟩ := hkeys e he
    rw [he'] at hpe
    simp [keyV] at hpe
    exact hxy (by rw [show (x, y) = p from Prod.ext hpe.1 hpe.2]; exact hp))
  have ev : ∀ t v, a.tmps[t]? = some v → a.eval (.tmp t) = v := fun t v ht => by
    show a.tmps.getD t undef = v
    rw [Array.getD_eq_getD_getElem?, ht]; rfl
  have hex : (execOp a.eval o).run Tryz.prog w = .ok .skip { w with heap := w.heap.setIfInBounds bm (.map (es.push { key := keyV x y, val := lkV H (x, y), born := c }) (c + 1)) } := by
    unfold execOp
    simp only [ho, ev _ _ hm, ev _ _ hk, ev _ _ hv, Sem.run_bind, hrun, Result.andThen_ok]
    rfl
  unfold Oper.wp
  rw [hex, Oper.upon_skip, hd]
  have hbl : bm < w.heap.size := by omega
  refine ⟨h.gk, h.wm, h.sl.skip ?_, h.os, fun k hk => ?_, fun hz => ?_, fun _ => ⟨by simp [h1], es.push { key := keyV x y, val := lkV H (x, y), born := c }, c + 1, l ++ [(x, y)], ⟨by rw [Array.toList_push, List.map_append, hbn.1, List.length_append]; simp [List.range_succ, hbn.2], by rw [hbn.2]; simp⟩, ?_, ?_, ?_, fun p => ?_⟩⟩
  · have key : ∀ i, i < 27 → fIns i ≠ none → fSlot i = none := by decide
    exact key i hi (by rw [hin]; simp)
  · show (w.heap.setIfInBounds bm _)[k]? = _
    rw [Array.getElem?_setIfInBounds_ne (by omega)]
    exact h.oth k hk
  · rw [List.getElem?_set_ne hi0, hL0] at hz; cases hz
  · show (w.heap.setIfInBounds bm _)[bm]? = _
    rw [Array.getElem?_setIfInBounds_self_of_lt hbl]
  · simp [h3]
  · rw [List.nodup_append]; exact ⟨h4, by simp, fun u hu v hv => by simp at hv; subst hv; exact fun e => hxy (e ▸ hu)⟩
  · rw [List.mem_append, h5, List.mem_singleton]
    constructor
    · rintro (⟨j, j1, j2⟩ | rfl)
      · refine ⟨j, j1, ?_⟩
        by_cases e : i = j
        · subst e; rw [List.getElem?_set_self (by rw [h.sl.len]; exact hi)]
        · rw [List.getElem?_set_ne e]; exact j2
      · exact ⟨i, hin, by rw [List.getElem?_set_self (by rw [h.sl.len]; exact hi)]⟩
    · rintro ⟨j, j1, j2⟩
      by_cases e : i = j
      · subst e; rw [hin] at j1; cases j1; exact .inr rfl
      · rw [List.getElem?_set_ne e] at j2; exact .inl ⟨j, j1, j2⟩
theorem FI.load {Q : Exit → Act → World → Prop} {W : World} {H bm : Nat} {L : List Bool} {a : Act} {w : World} (h : FI W H bm L a w) {o : Oper} (hH : H < bm) (hW : W.heap[H]? = some (.cells #[fv 166] 127 (0, 0))) (ho : o.op = .load 127 (.tmp 4)) (hd : o.dst = some 23) : o.wp Tryz.prog a w (fun a' w' => FI W H bm (L.set 18 true) a' w') Q := by
  have hw : w.heap[H]? = some (.cells #[fv 166] 127 (0, 0)) := (h.oth H hH).trans hW
  have h4 : a.tmps[4]? = some (.pointer (some ⟨H, 0, none⟩)) := h.sl.base (4, _) (by simp [fBase])
  have ev : a.eval (.tmp 4) = .pointer (some ⟨H, 0, none⟩) := by
    show a.tmps.getD 4 undef = _
    rw [Array.getD_eq_getD_getElem?, h4]; rfl
  obtain ⟨v, hv, hr⟩ := load_cells (P := Tryz.prog) (m := ⟨fun _ => undef, fun _ => 0, fun _ => False⟩) (B0 := 0) (w := w) (t := 127) (cs := [.v (fv 166)]) (vs := [fv 166]) (b := H) (o := 0) (off := 0) (p := .v (fv 166)) (.cons .v .nil) (CellsAt.of_block hw) (by kernel_rfl)
  cases hr
  have hrun : (execOp a.eval o).run Tryz.prog w = .ok (.value (fv 166)) w := run_of (s := Instr.loadAt 127 (a.eval (.tmp 4))) (by unfold execOp; simp only [ho]) (by rw [ev]; exact hv)
  unfold Oper.wp
  rw [hrun, Oper.upon_value, hd]
  exact h.pure (i := 18) (by decide) (by decide) rfl (by decide)
set_option maxRecDepth 100000 in
set_option maxHeartbeats 4000000 in
theorem forms_calls (w : World) (hgk : GK w) : Calls Tryz.prog 107 #[] w fun e w' => ∃ H b es c, ∃ l : List (Int × Int), (es.toList.map (·.born) = List.range l.length ∧ c = l.length) ∧ e = .returned (.map (some b)) ∧ w.heap.size ≤ H ∧ H < b ∧ w'.heap[H]? = some (.cells #[fv 166] 127 (0, 0)) ∧ w'.heap[b]? = some (.map es c) ∧ es.toList.map (fun e => (e.key, e.val)) = l.map (fun p => (keyV p.1 p.2, lkV H p)) ∧ l.Nodup ∧ (∀ p, p ∈ l ↔ ∃ i, i < 27 ∧ fIns i = some p) ∧ Below w.heap.size w w' := by
  have hmf : ∀ (fn : Fn) (first cap : Array Value) (w : World), (Instr.makeFunc fn first cap).run Tryz.prog w = .ok (.func fn first cap) w := fun _ _ _ _ => rfl
  have hsf := fun (a : Addr) (w : World) => Go.run_store Tryz.prog w a (.func (.func 166) #[] #[]) .plain rfl
  go_enter Tryz.func107, Tryz.ntmps107
  go_wp2_with fail
  refine region_inv (FI { (w.alloc (.cells #[fv 166] 127)) with drawn := w.drawn } w.heap.size (w.heap.size + 1)) (by kernel_rfl) ?hac ?hstep ?hend ?h0
  case hac => exact acB_ok (by kernel_rfl)
  case hstep =>
    intro L a w' i o hlen ho hLi dep h
    have hi : i < 27 := by rw [← h.sl.len]; exact (List.getElem?_eq_some_iff.1 hLi).1
    have hbm : (w.alloc (.cells #[fv 166] 127)).heap.size = w.heap.size + 1 := by show (w.heap.push _).size = _; rw [Array.size_push]
    have hH : w.heap.size < w.heap.size + 1 := Nat.lt_succ_self _
    have hW : (w.alloc (.cells #[fv 166] 127)).heap[w.heap.size]? = some (.cells #[fv 166] 127 (0, 0)) := heap_alloc_new w _
    obtain rfl | rfl | rfl | rfl | rfl | rfl | rfl | rfl | rfl | rfl | rfl | rfl | rfl | rfl | rfl | rfl | rfl | rfl | rfl | rfl | rfl | rfl | rfl | rfl | rfl | rfl | rfl : i = 0 ∨ i = 1 ∨ i = 2 ∨ i = 3 ∨ i = 4 ∨ i = 5 ∨ i = 6 ∨ i = 7 ∨ i = 8 ∨ i = 9 ∨ i = 10 ∨ i = 11 ∨ i = 12 ∨ i = 13 ∨ i = 14 ∨ i = 15 ∨ i = 16 ∨ i = 17 ∨ i = 18 ∨ i = 19 ∨ i = 20 ∨ i = 21 ∨ i = 22 ∨ i = 23 ∨ i = 24 ∨ i = 25 ∨ i = 26 := by omega
    · obtain rfl := Option.some.inj ho
      exact h.make hbm rfl rfl hLi
    · obtain rfl := Option.some.inj ho
      exact h.pstep (by decide) (by decide) rfl (by decide) rfl (l := []) (fun e he => by cases he) (build_ok (κ := exV) rfl (by kernel_rfl))
    · obtain rfl := Option.some.inj ho
      exact h.pstep (by decide) (by decide) rfl (by decide) rfl (l := [(3, fv 165)]) (fun e he => by simp at he; subst he; exact h.sl.base _ (by simp [fBase])) (move_ok (κ := exV) (.inl rfl) (by kernel_rfl))
    · obtain rfl := Option.some.inj ho
      exact h.pstep (by decide) (by decide) rfl (by decide) rfl (l := [(11, fVal w.heap.size (w.heap.size + 1) 2)]) (fun e he => by simp at he; subst he; exact (h.sl.done 2 _ rfl (dep ⟨2, .data⟩ (by simp) rfl))) (build_ok (κ := exV) rfl (by kernel_rfl))
    · obtain rfl := Option.some.inj ho
      exact h.ins (x := 1) (y := 1) (by decide) rfl rfl rfl hLi (dep ⟨0, .data⟩ (by simp) rfl) (h.sl.done 1 _ rfl (dep ⟨1, .data⟩ (by simp) rfl)) (h.sl.done 3 _ rfl (dep ⟨3, .data⟩ (by simp) rfl))
    · obtain rfl := Option.some.inj ho
      exact h.pstep (by decide) (by decide) rfl (by decide) rfl (l := []) (fun e he => by cases he) (build_ok (κ := exV) rfl (by kernel_rfl))
    · obtain rfl := Option.some.inj ho
      exact h.pstep (by decide) (by decide) rfl (by decide) rfl (l := [(1, fv 163)]) (fun e he => by simp at he; subst he; exact h.sl.base _ (by simp [fBase])) (move_ok (κ := exV) (.inl rfl) (by kernel_rfl))
    · obtain rfl := Option.some.inj ho
      exact h.pstep (by decide) (by decide) rfl (by decide) rfl (l := [(14, fVal w.heap.size (w.heap.size + 1) 6)]) (fun e he => by simp at he; subst he; exact (h.sl.done 6 _ rfl (dep ⟨6, .data⟩ (by simp) rfl))) (build_ok (κ := exV) rfl (by kernel_rfl))
    · obtain rfl := Option.some.inj ho
      exact h.ins (x := 2) (y := 1) (by decide) rfl rfl rfl hLi (dep ⟨0, .data⟩ (by simp) rfl) (h.sl.done 5 _ rfl (dep ⟨5, .data⟩ (by simp) rfl)) (h.sl.done 7 _ rfl (dep ⟨7, .data⟩ (by simp) rfl))
    · obtain rfl := Option.some.inj ho
      exact h.pstep (by decide) (by decide) rfl (by decide) rfl (l := []) (fun e he => by cases he) (build_ok (κ := exV) rfl (by kernel_rfl))
    · obtain rfl := Option.some.inj ho
      exact h.pstep (by decide) (by decide) rfl (by decide) rfl (l := [(2, fv 164)]) (fun e he => by simp at he; subst he; exact h.sl.base _ (by simp [fBase])) (move_ok (κ := exV) (.inl rfl) (by kernel_rfl))
    · obtain rfl := Option.some.inj ho
      exact h.pstep (by decide) (by decide) rfl (by decide) rfl (l := [(17, fVal w.heap.size (w.heap.size + 1) 10)]) (fun e he => by simp at he; subst he; exact (h.sl.done 10 _ rfl (dep ⟨10, .data⟩ (by simp) rfl))) (build_ok (κ := exV) rfl (by kernel_rfl))
    · obtain rfl := Option.some.inj ho
      exact h.ins (x := 3) (y := 1) (by decide) rfl rfl rfl hLi (dep ⟨0, .data⟩ (by simp) rfl) (h.sl.done 9 _ rfl (dep ⟨9, .data⟩ (by simp) rfl)) (h.sl.done 11 _ rfl (dep ⟨11, .data⟩ (by simp) rfl))
    · obtain rfl := Option.some.inj ho
      exact h.pstep (by decide) (by decide) rfl (by decide) rfl (l := []) (fun e he => by cases he) (build_ok (κ := exV) rfl (by kernel_rfl))
    · obtain rfl := Option.some.inj ho
      exact h.pstep (by decide) (by decide) rfl (by decide) rfl (l := [(6, fc 168 w.heap.size)]) (fun e he => by simp at he; subst he; exact h.sl.base _ (by simp [fBase])) (move_ok (κ := exV) (.inl rfl) (by kernel_rfl))
    · obtain rfl := Option.some.inj ho
      exact h.pstep (by decide) (by decide) rfl (by decide) rfl (l := [(20, fVal w.heap.size (w.heap.size + 1) 14)]) (fun e he => by simp at he; subst he; exact (h.sl.done 14 _ rfl (dep ⟨14, .data⟩ (by simp) rfl))) (build_ok (κ := exV) rfl (by kernel_rfl))
    · obtain rfl := Option.some.inj ho
      exact h.ins (x := 1) (y := 2) (by decide) rfl rfl rfl hLi (dep ⟨0, .data⟩ (by simp) rfl) (h.sl.done 13 _ rfl (dep ⟨13, .data⟩ (by simp) rfl)) (h.sl.done 15 _ rfl (dep ⟨15, .data⟩ (by simp) rfl))
    · obtain rfl := Option.some.inj ho
      exact h.pstep (by decide) (by decide) rfl (by decide) rfl (l := []) (fun e he => by cases he) (build_ok (κ := exV) rfl (by kernel_rfl))
    · obtain rfl := Option.some.inj ho
      exact h.load hH hW rfl rfl
    · obtain rfl := Option.some.inj ho
      exact h.pstep (by decide) (by decide) rfl (by decide) rfl (l := [(23, fVal w.heap.size (w.heap.size + 1) 18)]) (fun e he => by simp at he; subst he; exact (h.sl.done 18 _ rfl (dep ⟨18, .data⟩ (by simp) rfl))) (build_ok (κ := exV) rfl (by kernel_rfl))
    · obtain rfl := Option.some.inj ho
      exact h.ins (x := 2) (y := 2) (by decide) rfl rfl rfl hLi (dep ⟨0, .data⟩ (by simp) rfl) (h.sl.done 17 _ rfl (dep ⟨17, .data⟩ (by simp) rfl)) (h.sl.done 19 _ rfl (dep ⟨19, .data⟩ (by simp) rfl))
    · obtain rfl := Option.some.inj ho
      exact h.pstep (by decide) (by decide) rfl (by decide) rfl (l := []) (fun e he => by cases he) (build_ok (κ := exV) rfl (by kernel_rfl))
    · obtain rfl := Option.some.inj ho
      exact h.pstep (by decide) (by decide) rfl (by decide) rfl (l := [(5, fc 167 w.heap.size)]) (fun e he => by simp at he; subst he; exact h.sl.base _ (by simp [fBase])) (move_ok (κ := exV) (.inl rfl) (by kernel_rfl))
    · obtain rfl := Option.some.inj ho
      exact h.pstep (by decide) (by decide) rfl (by decide) rfl (l := [(26, fVal w.heap.size (w.heap.size + 1) 22)]) (fun e he => by simp at he; subst he; exact (h.sl.done 22 _ rfl (dep ⟨22, .data⟩ (by simp) rfl))) (build_ok (κ := exV) rfl (by kernel_rfl))
    · obtain rfl := Option.some.inj ho
      exact h.ins (x := 3) (y := 2) (by decide) rfl rfl rfl hLi (dep ⟨0, .data⟩ (by simp) rfl) (h.sl.done 21 _ rfl (dep ⟨21, .data⟩ (by simp) rfl)) (h.sl.done 23 _ rfl (dep ⟨23, .data⟩ (by simp) rfl))
    · obtain rfl := Option.some.inj ho
      exact h.pstep (by decide) (by decide) rfl (by decide) rfl (l := [(9, .map (some (w.heap.size + 1)))]) (fun e he => by simp at he; subst he; exact (h.sl.done 0 _ rfl (dep ⟨0, .data⟩ (by simp) rfl))) (move_ok (κ := exV) (.inl rfl) (by kernel_rfl))
    · obtain rfl := Option.some.inj ho
      exact h.pstep (by decide) (by decide) rfl (by decide) rfl (l := [(28, .map (some (w.heap.size + 1)))]) (fun e he => by simp at he; subst he; exact (h.sl.done 25 _ rfl (dep ⟨25, .data⟩ (by simp) rfl))) (move_ok (κ := exV) (.inr rfl) (by kernel_rfl))
  case hend =>
    intro a w' h
    have hL : ∀ j, j < 27 → (List.replicate 27 true)[j]? = some true := fun j hj => by rw [List.getElem?_replicate, if_pos hj]
    obtain ⟨h1, es, c, l, hbn, h2, h3, h4, h5⟩ := h.on (hL 0 (by decide))
    have hz := h.sl.done 26 0 rfl (hL 26 (by decide))
    rename_i K hK
    refine hK _ _ ?_
    refine wp_ret ?_
    refine bodyPost_ret (results_tmp rfl _ _ _) h.sl.defs ?_
    have hg : a.tmps.getD 0 undef = .map (some (w.heap.size + 1)) := by rw [Array.getD_eq_getD_getElem?, hz]; rfl
    refine ⟨w.heap.size, w.heap.size + 1, es, c, l, hbn, by rw [hg], Nat.le_refl _, Nat.lt_succ_self _, (h.oth _ (Nat.lt_succ_self _)).trans (heap_alloc_new w _), h2, h3, h4, fun p => ?_, ⟨h.os.1, h.os.2.1, h.os.2.2, by omega, fun k hk => (h.oth k (by omega)).trans (Below.heap_alloc w _ k hk)⟩⟩
    rw [h5]
    constructor
    · rintro ⟨i, i1, i2⟩
      exact ⟨i, by have := (List.getElem?_eq_some_iff.1 i2).1; simpa using this, i1⟩
    · rintro ⟨i, i0, i1⟩; exact ⟨i, i1, hL i i0⟩
  case h0 =>
    have hL : ∀ j b, (List.replicate 27 false)[j]? = some b → b = false := fun j b hj => by
      rw [List.getElem?_replicate] at hj
      split at hj
      · cases hj; rfl
      · cases hj
    refine ⟨hgk.below (Below.alloc_drawn w _), by show (w.heap.push _).size = _; rw [Array.size_push], ⟨rfl, rfl, rfl, fun e he => ?_, fun i t _ hi => by cases hL i true hi⟩, ⟨rfl, rfl, rfl⟩, fun k hk => rfl, fun _ => ⟨rfl, fun i p hp => ?_⟩, fun hi => by cases hL 0 true hi⟩
    · simp only [fBase, List.mem_cons, List.not_mem_nil, or_false] at he
      rcases he with rfl | rfl | rfl | rfl | rfl | rfl <;> rfl
    · have hi : i < 27 := by
        have key : ∀ i, fIns i ≠ none → i < 27 := by
          intro i hi
          refine Classical.byContradiction fun hn => hi ?_
          unfold fIns
          split <;> first | omega | rfl
        exact key i (by rw [hp]; simp)
      show (List.replicate 27 false)[i]? = some false
      rw [List.getElem?_replicate, if_pos hi]
def fKs : List (Int × Int) := [(1, 1), (2, 1), (3, 1), (1, 2), (2, 2), (3, 2)]
def fVs : List PV := [.agg [.v (.string ⟨#[97]⟩), .v (.string ⟨#[99, 111, 110, 116, 97, 99, 116]⟩), .fn 165 []], .agg [.v (.string ⟨#[100]⟩), .v (.string ⟨#[99, 111, 110, 116, 97, 99, 116]⟩), .fn 163 []], .agg [.v (.string ⟨#[99]⟩), .v (.string ⟨#[99, 111, 110, 116, 97, 99, 116]⟩), .fn 164 []], .agg [.v (.string ⟨#[97]⟩), .v (.string ⟨#[114, 97, 110, 103, 101]⟩), .fn 168 [.rptr true [.fnc 166] () 0]], .agg [.v (.string ⟨#[100]⟩), .v (.string ⟨#[114, 97, 110, 103, 101]⟩), .fn 166 []], .agg [.v (.string ⟨#[99]⟩), .v (.string ⟨#[114, 97, 110, 103, 101]⟩), .fn 167 [.rptr true [.fnc 166] () 0]]]
theorem fIns_mem (p : Int × Int) : (∃ i, i < 27 ∧ fIns i = some p) ↔ p ∈ fKs := by
  constructor
  · rintro ⟨i, hi, h⟩
    have key : ∀ i, i < 27 → fIns i = none ∨ ∃ q ∈ fKs, fIns i = some q := by decide
    rcases key i hi with h1 | ⟨q, hq, h1⟩
    · rw [h1] at h; cases h
    · rw [h1] at h; cases h; exact hq
  · intro h
    have key : ∀ q ∈ fKs, ∃ i, i < 27 ∧ fIns i = some q := by decide
    exact key p h
noncomputable def fC : MapC Tryz.prog where
  f := 107
  ks := fKs
  vs := fVs
  ids p := rfl
  enters := fun _ _ => by kernel_rfl
  ok w hgk := by
    refine (forms_calls w hgk).mono fun e w' hh => ?_
    obtain ⟨H, b, es, c, l, _, rfl, h1, h2, h3, h4, h5, h6, h7, h8⟩ := hh
    have hb : b < w'.heap.size := (Array.getElem?_eq_some_iff.1 h4).1
    refine ⟨b, es, c, fKs.map (lkV H), rfl, by omega, h4, by simp, ?_, fun m B0 hB hF => ?_, h8⟩
    · rw [h5]
      have hz : ∀ (l : List (Int × Int)), (l.map fun k => Value.agg #[.int .i64 k.1, .int .i64 k.2]).zip (l.map (lkV H)) = l.map fun p => (keyV p.1 p.2, lkV H p) := fun l => by
        induction l with
        | nil => rfl
        | cons p l ih => simp only [List.map_cons, List.zip_cons_cons, ih]; rfl
      rw [hz]
      refine List.Perm.map _ ?_
      exact (List.perm_ext_iff_of_nodup h6 (by decide)).2 fun p => (h7 p).trans (fIns_mem p)
    · have hbox : RepV m B0 w' (.rptr true [.fnc 166] () 0) (.pointer (some ⟨H, 0, none⟩)) := by
        refine .rptr (b := H) (o := 0) ?_
        simp only [SKIs]
        exact ⟨H, 0, [fv 166], rfl, ⟨hF H h1 (by omega), fun _ => Nat.le_trans hB h1⟩, rfl, CellsAt.of_block h3, by simp only [TupIs, SKIs]; exact ⟨_, rfl, rfl⟩⟩
      have look : ∀ (s1 s2 : ByteArray) (f : FuncId) (caps : List PV) (cv : List Value), RepVs m B0 w' caps cv → RepV m B0 w' (.agg [.v (.string s1), .v (.string s2), .fn f caps]) (.agg #[.string s1, .string s2, .func (.func f) #[] cv.toArray]) := fun s1 s2 f caps cv h => .agg (.cons .v (.cons .v (.cons (.fn h) .nil)))
      exact .cons (look _ _ _ _ _ .nil) (.cons (look _ _ _ _ _ .nil) (.cons (look _ _ _ _ _ .nil) (.cons (look _ _ _ _ _ (.cons hbox .nil)) (.cons (look _ _ _ _ _ .nil) (.cons (look _ _ _ _ _ (.cons hbox .nil)) .nil)))))
noncomputable def fClo1 : CloT Tryz.prog := ⟨163, 135, [2], none, clo_of0 (F := forms_1 0) (forms_1_e 0).ok (fun b => by kernel_rfl), fun _ _ => by kernel_rfl⟩
noncomputable def fClo2 : CloT Tryz.prog := ⟨164, 135, [2, 7], none, clo_of0 (F := forms_2 0) (forms_2_e 0).ok (fun b => by kernel_rfl), fun _ _ => by kernel_rfl⟩
noncomputable def fClo3 : CloT Tryz.prog := ⟨165, 135, [2, 3, 4, 5, 6, 7], none, clo_of0 (F := forms_3 0) (forms_3_e 0).ok (fun b => by kernel_rfl), fun _ _ => by kernel_rfl⟩
noncomputable def fClo4 : CloT Tryz.prog := ⟨166, 135, [8, 9, 10], none, clo_of0 (F := forms_4 0) (forms_4_e 0).ok (fun b => by kernel_rfl), fun _ _ => by kernel_rfl⟩
noncomputable def fClo5 : CloT Tryz.prog := ⟨167, 135, [8, 9, 10, 12], some 166, clo_of1 (F := forms_5 0) (forms_5_e 0).ok (fun b => by kernel_rfl), fun _ _ => by kernel_rfl⟩
noncomputable def fClo6 : CloT Tryz.prog := ⟨168, 135, [8, 9, 10, 11, 12], some 166, clo_of1 (F := forms_6 0) (forms_6_e 0).ok (fun b => by kernel_rfl), fun _ _ => by kernel_rfl⟩
end Ex
namespace Ex
open Go Go.RowKit
section
variable {P : Program} {s : List SK}
def insF {α : Type} (sz : Nat) (l : List α) (x : Int × List α) : Option (List α) := bif decide (0 ≤ x.1) && (decide (x.1 ≤ Int.ofNat l.length) && (!x.2.isEmpty && decide ((l.length + x.2.length) * sz ≤ 140737488355328))) then some (l.take x.1.toNat ++ (x.2 ++ l.drop x.1.toNat)) else none
theorem insF_some {α : Type} {sz : Nat} {l r : List α} {x : Int × List α} (h : insF sz l x = some r) : ∃ i : Nat, x.1 = i ∧ i ≤ l.length ∧ 0 < x.2.length ∧ (l.length + x.2.length) * sz ≤ 140737488355328 ∧ r = l.take i ++ (x.2 ++ l.drop i) := by
  obtain ⟨i, vs⟩ := x
  unfold insF at h
  rcases cond_some h with ⟨h1, h2⟩ | ⟨_, h2⟩
  · simp only [Bool.and_eq_true, decide_eq_true_eq] at h1
    obtain ⟨h3, h4, h5, h6⟩ := h1
    have h4' : i ≤ (l.length : Int) := h4
    refine ⟨i.toNat, by simp only; omega, by omega, ?_, h6, (Option.some.inj h2).symm⟩
    cases vs with
    | nil => simp at h5
    | cons a b => simp
  · cases h2
theorem run_copy_n {w : World} {dT sT ty elem : TypeId} {b o dLen dCap : Nat} {a : Addr} {sLen sCap sz : Nat} {cs : List Value} (hu : P.underlying dT = some (.slice elem)) (hs : sizeB P elem = some sz) (hn : cs.length = Nat.min sLen dLen * sz)
    (hsrc : ∀ j v, cs[j]? = some v → w.cell? (a.add j) = some v) (hc : ∀ j, j < cs.length → (w.cell? ⟨b, o + j, none⟩).isSome = true) (hf : ∀ j, j < cs.length → w.frozen? ⟨b, o + j, none⟩ = false) (h1 : ∀ v ∈ cs, v.oneCell' = true) :
    (Builtin.copy_ #[dT, sT] ty #[.slice (some ⟨b, o, none⟩) dLen dCap, .slice (some a) sLen sCap]).run P w = .ok (goInt (Nat.min sLen dLen)) (w.setCells b o cs) := by
  have hl := run_loadCells_list (P := P) w a cs hsrc
  have hst := run_storeCells_cells (P := P) b o cs 0 w (by simpa using hc) (by simpa using hf) h1
  simp [Builtin.copy_, run_underlying hu, Builtin.lenOf, Builtin.firstCells, sizeB_ok hs, ← hn, hl, hst]
theorem run_overlaps_own (w : World) (tS tR e : TypeId) (ht : P.underlying tS = some (.slice e)) (size : Nat) (hz : ∀ w, (Go.sizeOf e).run P w = .ok size w)
    (a b : Addr) (la ca lb cb : Nat) (hne : a.block ≠ b.block) (tA tB : TypeId) (kA kB : Nat)
    (hsa : w.shape? a.block = some (tA, kA + 1)) (hsb : w.shape? b.block = some (tB, kB)) (hfb : ∀ o, w.frozen? { block := b.block, off := o } = false) (hb : b.spot = none) :
    (Extern.SlicesOverlaps.overlaps #[tS, tS] #[tR] #[.slice (some a) la ca, .slice (some b) lb cb]).run P w = .ok (.bool false) w := by
  have hnb : (a.block != b.block) = true := by simpa using hne
  have hnb' : (a.block == b.block) = false := by simpa using hne
  have hfb' : w.frozen? b = false := by
    have := hfb b.off
    obtain ⟨bb, bo, bs⟩ := b
    simp only at hb
    subst hb
    exact this
  change Sem.run P (α := Value) (do
    let some t := (#[tS, tS] : Array TypeId)[0]? | stuck "slices.overlaps: no parameter types"
    let .slice elem ← underlying t | stuck "slices.overlaps: slice type expected"
    let size ← sizeOf elem
    match (some a : Option Addr), (some b : Option Addr) with
    | some a, some b =>
      if la = 0 ∨ lb = 0 ∨ size = 0 then pure (Value.bool false)
      else if a.block != b.block && (← frozen a) && (← frozen b) then unsupported .addressObserved
      else do
        if a.block != b.block then do
          noView a; noView b
          if ← mayBeOne a b then return Value.bool ((← choose (.extern "sameAddr.stringBytes" 2)) == 1)
        pure (Value.bool (a.block == b.block && a.off < b.off + lb * size && b.off < a.off + la * size))
    | _, _ => pure (Value.bool false)) w = _
  by_cases h0 : la = 0 ∨ lb = 0 ∨ size = 0
  · simp [run_underlying ht, hz, h0]
  · have hfe := hfb kB
    cases hfa : w.frozen? a with
    | true => simp [run_underlying ht, hz, h0, hnb, hnb', frozen, noView, viewAt, mayBeOne, stringish, shape, Sem.run, hsa, hsb, hfa, hfb', hfe]
    | false =>
      cases hfk : w.frozen? { block := a.block, off := kA + 1 } <;> simp [run_underlying ht, hz, h0, hnb, hnb', frozen, noView, viewAt, mayBeOne, stringish, shape, Sem.run, hsa, hsb, hfa, hfb', hfe, hfk]
theorem shape_of_cell {w : World} {b o : Nat} {v : Value} (h : w.cell? ⟨b, o, none⟩ = some v) : ∃ T k, w.shape? b = some (T, k + 1) := by
  simp only [World.cell?] at h
  unfold World.shape?
  split at h
  · rename_i c t f he
    simp only [Option.isSome_none, Bool.false_eq_true, if_false] at h
    have := (Array.getElem?_eq_some_iff.1 h).1
    exact ⟨t, c.size - 1, by simp; omega⟩
  · cases h
structure InsWalk (P : Program) (f : FuncId) (T : TypeId) (s : List SK) (sz bytes : Nat) : Prop where
  flat : s.all flatK = true
  size : s.length = sz
  pos : 0 < sz
  ending : ∃ F : List (Tup s) → Int × List (Tup s) → Option (List (Tup s)), MutOk P f T s [.one (.sc (.int .i64)), .one (.row T s)] false F ∧ ∀ (l vs : List (Tup s)), 0 < vs.length → (l.length + vs.length) * bytes ≤ 140737488355328 → F l (Int.ofNat l.length, vs) = some (l ++ vs)
  shift : ∀ (b n c i vb voff m vc : Nat) (cs vs : List Value) (w : World), i < n → 0 < m → n + m ≤ c → c ≤ 9223372036854775807 → vb ≠ b → cs.length = n * sz → vs.length = m * sz →
    (∀ j v, cs[j]? = some v → w.cell? ⟨b, j, none⟩ = some v) → (∀ j, j < (n + m) * sz → (w.cell? ⟨b, j, none⟩).isSome = true) → (∀ j, w.frozen? ⟨b, j, none⟩ = false) →
    (∀ j v, vs[j]? = some v → w.cell? ⟨vb, voff + j, none⟩ = some v) → (∀ v ∈ cs, v.oneCell' = true) → (∀ v ∈ vs, v.oneCell' = true) →
    (∃ tA kA, w.shape? vb = some (tA, kA + 1)) → (∃ tB kB, w.shape? b = some (tB, kB)) →
    Calls P f #[.slice (some ⟨b, 0, none⟩) n c, .int .i64 i, .slice (some ⟨vb, voff, none⟩) m vc] w fun e w' =>
      e = .returned (.slice (some ⟨b, 0, none⟩) (n + m) c) ∧ w'.os = w.os ∧ w'.tape = w.tape ∧ w'.output = w.output ∧ w'.heap = ((w.setCells b ((i + m) * sz) (cs.drop (i * sz))).setCells b (i * sz) vs).heap
  grow : ∀ (b n c i vb voff m vc : Nat) (cs vs : List Value) (w : World), i < n → 0 < m → n ≤ c → c < n + m → (n + m) * bytes ≤ 140737488355328 → cs.length = n * sz → vs.length = m * sz →
    (∀ j v, cs[j]? = some v → w.cell? ⟨b, j, none⟩ = some v) → (∀ j v, vs[j]? = some v → w.cell? ⟨vb, voff + j, none⟩ = some v) → (∀ v ∈ cs, v.oneCell' = true) → (∀ v ∈ vs, v.oneCell' = true) →
    Calls P f #[.slice (some ⟨b, 0, none⟩) n c, .int .i64 i, .slice (some ⟨vb, voff, none⟩) m vc] w fun e w' =>
      ∃ G ROW, e = .returned (.slice (some ⟨w.heap.size, 0, none⟩) (n + m) G) ∧ n + m ≤ G ∧ G ≤ maxLen ∧ ROW.size = G * sz ∧ ROW.toList.take (i * sz) = cs.take (i * sz) ∧
      w'.os = w.os ∧ w'.tape = w.tape ∧ w'.output = w.output ∧ w'.heap = (((w.alloc (.cells ROW T)).setCells w.heap.size (i * sz) vs).setCells w.heap.size ((i + m) * sz) (cs.drop (i * sz))).heap
theorem RowsIs.drop {ok : Nat → Prop} {w : World} {l : List (Tup s)} {xs : List Value} (h : RowsIs ok w s l xs) (k : Nat) : RowsIs ok w s (l.drop k) (xs.drop (k * s.length)) := fun i x hx => by
  rw [List.getElem?_drop] at hx
  have := h (k + i) x hx
  rw [List.drop_drop, ← Nat.add_mul]
  exact this
theorem ins_rows {ok : Nat → Prop} {w : World} {l vs : List (Tup s)} {xs news : List Value} (h : RowsIs ok w s l xs) (h' : RowsIs ok w s vs news) (hl : xs.length = l.length * s.length) (hn : news.length = vs.length * s.length) {i : Nat} (hi : i ≤ l.length) :
    RowsIs ok w s (l.take i ++ (vs ++ l.drop i)) (xs.take (i * s.length) ++ (news ++ xs.drop (i * s.length))) := by
  have h1 : i * s.length ≤ l.length * s.length := Nat.mul_le_mul_right _ hi
  exact RowsIs.app (RowsIs.take h i) (RowsIs.app h' (RowsIs.drop h i) hn) (by rw [List.length_take, List.length_take, hl, Nat.min_eq_left h1, Nat.min_eq_left hi])
theorem insert_mut {f : FuncId} {T : TypeId} {sz bytes : Nat} (hb : 0 < bytes) (H : InsWalk P f T s sz bytes) : MutOk P f T s [.one (.sc (.int .i64)), .one (.row T s)] false (insF bytes) := by
  obtain ⟨hfl, rfl, hpos, ⟨F, hend, hF⟩, hshift, hgrow⟩ := H
  intro l (x : Int × List (Tup s)) r w v vals base Fz Rd xs hx hown hbase hrows hFz hRd hno hargs hgk
  obtain ⟨i, hi1, hi2, hvp, hsz, rfl⟩ := insF_some hx
  obtain ⟨xi, vs⟩ := x
  simp only at hi1 hvp hsz
  subst hi1
  by_cases hin : i = l.length
  · subst hin
    have h1 := hF l vs hvp hsz
    have h2 := hend l (Int.ofNat l.length, vs) (l ++ vs) w v vals base Fz Rd xs h1 hown hbase hrows hFz hRd hno hargs hgk
    simpa using h2
  · have hargs0 := hargs
    simp only [PTIs, PKIs, LKIs] at hargs
    obtain ⟨u1, us, rfl, hu1, u2, rfl, hu2⟩ := hargs
    simp only [SKIs] at hu1
    subst hu1
    have hu2' := hu2
    simp only [SKIs] at hu2
    obtain ⟨A, vc, rfl, hvc, hel⟩ := hu2
    obtain ⟨news, hn1, hn2, hn3⟩ := row_flat hu2' vs.length (Nat.le_refl _)
    rw [List.take_length] at hn2
    obtain ⟨y, hy⟩ : ∃ y, vs[0]? = some y := ⟨vs[0], List.getElem?_eq_getElem hvp⟩
    obtain ⟨vb, voff, cs0, hA, hok, hcl, hca, hti⟩ := hel 0 y hy
    subst hA
    have hca' := hn3 vb voff rfl
    have hn1v := hn2.one hn1
    have hx1 := hrows.one hown.1
    have hvlt := hRd vb hok
    have hne : vb ≠ 0 ∨ True := .inr trivial
    obtain ⟨u0, hu0⟩ : ∃ u0, news[0]? = some u0 := ⟨news[0]'(by rw [hn1]; exact Nat.mul_pos hvp hpos), List.getElem?_eq_getElem _⟩
    have hc0 := hca' 0 u0 hu0
    rcases hown.2 with ⟨_, hl0⟩ | ⟨g, cap, cur, rfl, hg1, hg2, hg3, hg4, hg5, hg6⟩
    · omega
    have hgv : vb ≠ g := fun e => (hno g rfl).2 (e ▸ hok)
    have hlx : xs.length = l.length * s.length := hown.1
    have hcs : ∀ j v, xs[j]? = some v → w.cell? ⟨g, j, none⟩ = some v := fun j v hj => by
      have := hown.cells (g := g) rfl j v hj
      rw [Addr.add_mid, Nat.zero_add] at this
      exact this
    have hm63 : cap ≤ 9223372036854775807 := by unfold maxLen at hg4; omega
    have hil : i < l.length := by omega
    have hmi : i * s.length ≤ l.length * s.length := Nat.mul_le_mul_right _ hi2
    have hmx : (i + vs.length) * s.length = i * s.length + vs.length * s.length := Nat.add_mul _ _ _
    have hmn : (l.length + vs.length) * s.length = l.length * s.length + vs.length * s.length := Nat.add_mul _ _ _
    have hlen : (l.take i ++ (vs ++ l.drop i)).length = l.length + vs.length := by rw [List.length_append, List.length_append, List.length_take, List.length_drop]; omega
    have hrl : (xs.take (i * s.length) ++ (news ++ xs.drop (i * s.length))).length = (l.length + vs.length) * s.length := by rw [List.length_append, List.length_append, List.length_take, List.length_drop, hlx, hn1]; omega
    have hdl : (xs.drop (i * s.length)).length = l.length * s.length - i * s.length := by rw [List.length_drop, hlx]
    -- what a row holds behind both stores
    have set2 : ∀ (W : World) (k : Nat) (c0 : Array Value) (G : Nat) (xsA xsB : List Value), W.heap[k]? = some (.cells c0 T (0, 0)) → c0.size = G * s.length → l.length + vs.length ≤ G → c0.toList.take (i * s.length) = xs.take (i * s.length) →
        (∃ c1, ((W.setCells k ((i + vs.length) * s.length) (xs.drop (i * s.length))).setCells k (i * s.length) news).heap[k]? = some (.cells c1 T (0, 0)) ∧ c1.size = G * s.length ∧ c1.toList.take ((l.length + vs.length) * s.length) = xs.take (i * s.length) ++ (news ++ xs.drop (i * s.length))) ∧
        (∃ c1, ((W.setCells k (i * s.length) news).setCells k ((i + vs.length) * s.length) (xs.drop (i * s.length))).heap[k]? = some (.cells c1 T (0, 0)) ∧ c1.size = G * s.length ∧ c1.toList.take ((l.length + vs.length) * s.length) = xs.take (i * s.length) ++ (news ++ xs.drop (i * s.length))) := by
      intro W k c0 G _ _ hk hsz0 hG htk
      have hGs : (l.length + vs.length) * s.length ≤ G * s.length := Nat.mul_le_mul_right _ hG
      have hcl0 : c0.toList.length = G * s.length := by simpa using hsz0
      have fin : ∀ q, (xs.take (i * s.length) ++ (news ++ xs.drop (i * s.length)))[q]? = if q < i * s.length then c0.toList[q]? else if q < i * s.length + vs.length * s.length then news[q - i * s.length]? else xs[q - vs.length * s.length]? := fun q => by
        by_cases h1 : q < i * s.length
        · rw [if_pos h1, List.getElem?_append_left (by rw [List.length_take]; omega), ← htk, List.getElem?_take_of_lt h1]
        · rw [if_neg h1, List.getElem?_append_right (by rw [List.length_take]; omega), List.length_take, Nat.min_eq_left (by omega)]
          by_cases h2 : q < i * s.length + vs.length * s.length
          · rw [if_pos h2, List.getElem?_append_left (by omega)]
          · rw [if_neg h2, List.getElem?_append_right (by omega), List.getElem?_drop, hn1]
            congr 1
            omega
      constructor
      · have a1 := heap_setCells (xs.drop (i * s.length)) ((i + vs.length) * s.length) W _ hk
        have a2 := heap_setCells news (i * s.length) _ _ a1
        have b1 : (setFrom c0 ((i + vs.length) * s.length) (xs.drop (i * s.length))).toList = setL c0.toList ((i + vs.length) * s.length) (xs.drop (i * s.length)) := setFrom_toList _ _ _ (by rw [hdl]; omega)
        have b1l : (setL c0.toList ((i + vs.length) * s.length) (xs.drop (i * s.length))).length = c0.toList.length := setL_len _ _ _ (by rw [hdl]; omega)
        have b2 : (setFrom (setFrom c0 ((i + vs.length) * s.length) (xs.drop (i * s.length))) (i * s.length) news).toList = setL (setL c0.toList ((i + vs.length) * s.length) (xs.drop (i * s.length))) (i * s.length) news := by
          rw [← b1]; exact setFrom_toList _ _ _ (by rw [b1, b1l]; omega)
        refine ⟨_, a2, ?_, ?_⟩
        · rw [← Array.length_toList, b2, setL_len _ _ _ (by rw [b1l]; omega), b1l, hcl0]
        · rw [b2]
          apply List.ext_getElem?
          intro q
          rw [fin]
          by_cases hq : q < (l.length + vs.length) * s.length
          · rw [List.getElem?_take_of_lt hq, setL_get _ _ _ _ (by rw [b1l]; omega), setL_get _ _ _ _ (by rw [hdl]; omega), hdl, hn1]
            by_cases h1 : q < i * s.length
            · rw [if_neg (by omega), if_neg (by omega), if_pos h1]
            · by_cases h2 : q < i * s.length + vs.length * s.length
              · rw [if_pos (by omega), if_neg h1, if_pos h2]
              · rw [if_neg (by omega), if_pos (by omega), if_neg h1, if_neg h2, List.getElem?_drop]
                congr 1
                omega
          · rw [List.getElem?_eq_none (by rw [List.length_take]; omega), if_neg (by omega), if_neg (by omega), List.getElem?_eq_none (by omega)]
      · have a1 := heap_setCells news (i * s.length) W _ hk
        have a2 := heap_setCells (xs.drop (i * s.length)) ((i + vs.length) * s.length) _ _ a1
        have b1 : (setFrom c0 (i * s.length) news).toList = setL c0.toList (i * s.length) news := setFrom_toList _ _ _ (by omega)
        have b1l : (setL c0.toList (i * s.length) news).length = c0.toList.length := setL_len _ _ _ (by omega)
        have b2 : (setFrom (setFrom c0 (i * s.length) news) ((i + vs.length) * s.length) (xs.drop (i * s.length))).toList = setL (setL c0.toList (i * s.length) news) ((i + vs.length) * s.length) (xs.drop (i * s.length)) := by
          rw [← b1]; exact setFrom_toList _ _ _ (by rw [b1, b1l, hdl]; omega)
        refine ⟨_, a2, ?_, ?_⟩
        · rw [← Array.length_toList, b2, setL_len _ _ _ (by rw [b1l, hdl]; omega), b1l, hcl0]
        · rw [b2]
          apply List.ext_getElem?
          intro q
          rw [fin]
          by_cases hq : q < (l.length + vs.length) * s.length
          · rw [List.getElem?_take_of_lt hq, setL_get _ _ _ _ (by rw [b1l, hdl]; omega), setL_get _ _ _ _ (by omega), hdl, hn1]
            by_cases h1 : q < i * s.length
            · rw [if_neg (by omega), if_neg (by omega), if_pos h1]
            · by_cases h2 : q < i * s.length + vs.length * s.length
              · rw [if_neg (by omega), if_pos (by omega), if_neg h1, if_pos h2]
              · rw [if_pos (by omega), if_neg h1, if_neg h2, List.getElem?_drop]
                congr 1
                omega
          · rw [List.getElem?_eq_none (by rw [List.length_take]; omega), if_neg (by omega), if_neg (by omega), List.getElem?_eq_none (by omega)]
    by_cases hroom : l.length + vs.length ≤ cap
    · -- there is room
      have hcap : (l.length + vs.length) * s.length ≤ cap * s.length := Nat.mul_le_mul_right _ hroom
      have hcall := hshift g l.length cap i vb voff vs.length vc xs news w hil hvp hroom hm63 hgv hlx hn1 hcs (fun j hj => by rw [blk_cell hg2, Array.getElem?_eq_getElem (by omega)]; rfl) (fun j => blk_frozen hg2) hca' hx1 hn1v
        (shape_of_cell hc0) (⟨T, cur.size, by unfold World.shape?; rw [hg2]⟩)
      refine hcall.mono fun e w' hh => ?_
      obtain ⟨rfl, ho, ht, hou, hheap⟩ := hh
      obtain ⟨⟨c1, d1, d2, d3⟩, _⟩ := set2 w g cur cap xs xs hg2 hg5 hroom (by
        rw [← hg6, List.take_take, Nat.min_eq_left hmi])
      rw [← hheap] at d1
      have hoth : ∀ k, k ≠ g → w'.heap[k]? = w.heap[k]? := fun k hk => by
        rw [hheap, heap_setCells_other hk, heap_setCells_other hk]
      have hst : Stays (fun k => Fz k) (fun k => Fz k) w w' := fun k hk => ⟨hk, hoth k (fun e => (hno g rfl).1 (e ▸ hk))⟩
      have hstR : Stays Rd Rd w w' := fun k hk => ⟨hk, hoth k (fun e => (hno g rfl).2 (e ▸ hk))⟩
      refine ⟨.slice (some ⟨g, 0, none⟩) (l.length + vs.length) cap, xs.take (i * s.length) ++ (news ++ xs.drop (i * s.length)), rfl, fun h => (by cases h), ⟨by rw [hlen]; exact hrl, .inr ⟨g, cap, c1, by rw [hlen], hg1, d1, by rw [hlen]; exact hroom, hg4, d2, by rw [hlen]; exact d3⟩⟩,
        ins_rows (RowsIs.move hst hrows) (fun q z hq => TupIs.flat hfl (TupIs.move hstR (hn2 q z hq))) hlx hn1 hi2, fun k hk => .inl hk, ⟨ho, ht, hou⟩, by rw [hheap, size_setCells, size_setCells]; exact hbase, fun k hk hne => hoth k (fun e => hne (by rw [e]; rfl))⟩
    · -- a new row
      have hcall := hgrow g l.length cap i vb voff vs.length vc xs news w hil hvp hg3 (by omega) hsz hlx hn1 hcs hca' hx1 hn1v
      refine hcall.mono fun e w' hh => ?_
      obtain ⟨G, ROW, rfl, hG1, hG2, hR1, hR2, ho, ht, hou, hheap⟩ := hh
      have hnew : (w.alloc (.cells ROW T)).heap[w.heap.size]? = some (.cells ROW T (0, 0)) := heap_alloc_new w _
      obtain ⟨_, c1, d1, d2, d3⟩ := set2 (w.alloc (.cells ROW T)) w.heap.size ROW G xs xs hnew hR1 hG1 hR2
      rw [← hheap] at d1
      have hoth : ∀ k, k < w.heap.size → w'.heap[k]? = w.heap[k]? := fun k hk => by
        rw [hheap, heap_setCells_other (by omega), heap_setCells_other (by omega), Below.heap_alloc w _ k hk]
      have hst : Stays (fun k => Fz k) (fun k => Fz k) w w' := fun k hk => ⟨hk, hoth k (hFz k hk)⟩
      have hstR : Stays Rd Rd w w' := fun k hk => ⟨hk, hoth k (hRd k hk)⟩
      refine ⟨.slice (some ⟨w.heap.size, 0, none⟩) (l.length + vs.length) G, xs.take (i * s.length) ++ (news ++ xs.drop (i * s.length)), rfl, fun h => (by cases h), ⟨by rw [hlen]; exact hrl, .inr ⟨w.heap.size, G, c1, by rw [hlen], hbase, d1, by rw [hlen]; exact hG1, hG2, d2, by rw [hlen]; exact d3⟩⟩,
        ins_rows (RowsIs.move hst hrows) (fun q z hq => TupIs.flat hfl (TupIs.move hstR (hn2 q z hq))) hlx hn1 hi2, fun k hk => .inr ?_, ⟨ho, ht, hou⟩, by rw [hheap, size_setCells, size_setCells]; show base ≤ (w.heap.push _).size; rw [Array.size_push]; omega, fun k hk _ => hoth k hk⟩
      cases hk
      exact Nat.le_refl _
end
end Ex
namespace Ex
open Go Go.RowKit
section
variable {P : Program}
theorem wp_copy_r (w : World) {o : Oper} {a : Act} {K : Act → World → Prop} {Q : Exit → Act → World → Prop} (d s : Operand) (t t' : TypeId)
    (ho : o.op = .call { callee := .builtin .copy, args := #[d, s], argTypes := #[t, t'] }) (v u : Value) (hd : a.eval d = v) (hs : a.eval s = u) {v' : Value} {w' : World}
    (hr : (Builtin.copy_ #[t, t'] o.type #[v, u]).run P w = .ok v' w') (h : K (a.put o.dst v') w') : o.wp P a w K Q := by
  unfold Oper.wp execOp
  simp only [ho, resolve, invoke, builtin, Sem.run_bind, Sem.run_pure, Result.andThen_ok, List.map_toArray, List.map_cons, List.map_nil, hd, hs, hr]
  exact h
theorem wpList_copy_r (w : World) {ops : Array Oper} {rest : List Oper} {o : Oper} {a : Act} {Q : Exit → Act → World → Prop} (hgd : o.guard = none) (d s : Operand) (t t' : TypeId)
    (ho : o.op = .call { callee := .builtin .copy, args := #[d, s], argTypes := #[t, t'] }) (v u : Value) (hd : a.eval d = v) (hs : a.eval s = u) {v' : Value} {w' : World}
    (hr : (Builtin.copy_ #[t, t'] o.type #[v, u]).run P w = .ok v' w') (h : wpList P ops Q rest (a.put o.dst v') w') : wpList P ops Q (o :: rest) a w :=
  wpList_plain hgd fun _ hK => wp_copy_r w d s t t' ho v u hd hs hr (hK _ _ h)
theorem step_copy_r {ops : Array Oper} {o : Oper} {a : Act} {w : World} {K : Act → World → Prop} {Q : Exit → Act → World → Prop} {E : Prop}
    (hg : o.guard = none) (d x : Operand) (dT sT : TypeId) (hop : o.op = Op.call { callee := Callee.builtin Builtin.copy, args := #[d, x], argTypes := #[dT, sT] })
    (v u : Value) (hd : a.eval d = v) (hx : a.eval x = u) {v' : Value} {w' : World} (hr : (Builtin.copy_ #[dT, sT] o.type #[v, u]).run P w = .ok v' w') (hK : K (a.put o.dst v') w') :
    if Region.wanted o (yielded ops a.tmps) = true then Oper.wp P o a w K Q else E := by
  have hw : Region.wanted o (yielded ops a.tmps) = true := by simp [Region.wanted, hg]
  rw [if_pos hw]
  unfold Oper.wp
  simp [execOp, hop, resolve, invoke, builtin, hd, hx, hr, Result.andThen]
  exact hK
theorem drew_setCells' (b : Nat) : ∀ (vs : List Value) (o : Nat) (w : World), (w.setCells b o vs).drew = w.drew.setCells b o vs
  | [], _, _ => rfl
  | v :: r, o, w => by rw [World.setCells, World.setCells, drew_setCells' b r]; rfl
theorem isSome_setCells' (b : Nat) (vs : List Value) (o : Nat) (w : World) (h : ∀ j, j < vs.length → (w.cell? ⟨b, o + j, none⟩).isSome = true) (k : Nat) (hk : (w.cell? ⟨b, k, none⟩).isSome = true) : ((w.setCells b o vs).cell? ⟨b, k, none⟩).isSome = true := by
  by_cases hin : o ≤ k ∧ k < o + vs.length
  · have := World.cell?_setCells_in b vs o w h (k - o) (by omega)
    rw [show o + (k - o) = k by omega] at this
    rw [this]; rfl
  · rw [World.cell?_setCells_out b vs o w ⟨b, k, none⟩ (fun _ _ => by show k < o ∨ o + vs.length ≤ k; omega)]
    exact hk
theorem setCells_rest (b : Nat) (vs : List Value) (o : Nat) (w : World) : (w.setCells b o vs).os = w.os ∧ (w.setCells b o vs).tape = w.tape ∧ (w.setCells b o vs).output = w.output := by
  have h := below_setCells (B := 0) (b := b) (Nat.zero_le _) vs o w
  exact ⟨h.os, h.tape, h.output⟩
theorem heap_drew (b : Nat) (vs : List Value) (o : Nat) (w : World) : (w.drew.setCells b o vs).heap = (w.setCells b o vs).heap := by rw [← drew_setCells']; rfl
theorem heap_setCells_eq (b : Nat) : ∀ (vs : List Value) (o : Nat) (w w' : World), w'.heap = w.heap → (w'.setCells b o vs).heap = (w.setCells b o vs).heap
  | [], _, _, _, h => h
  | v :: r, o, w, w', h => heap_setCells_eq b r (o + 1) _ _ (by unfold World.setCell; simp only [h])
end
open Tryz
set_option maxHeartbeats 4000000 in
set_option maxRecDepth 100000 in
theorem ins34_shift (b n c i vb voff m vc : Nat) (cs vs : List Value) (w : World) (hi : i < n) (hm : 0 < m) (hroom : n + m ≤ c) (hc63 : c ≤ 9223372036854775807) (hvb : vb ≠ b) (hcl : cs.length = n * 6) (hvl : vs.length = m * 6)
    (hcs : ∀ j v, cs[j]? = some v → w.cell? ⟨b, j, none⟩ = some v) (hsp : ∀ j, j < (n + m) * 6 → (w.cell? ⟨b, j, none⟩).isSome = true) (hfz : ∀ j, w.frozen? ⟨b, j, none⟩ = false)
    (hvs : ∀ j v, vs[j]? = some v → w.cell? ⟨vb, voff + j, none⟩ = some v) (h1c : ∀ v ∈ cs, v.oneCell' = true) (h1v : ∀ v ∈ vs, v.oneCell' = true)
    (hsa : ∃ tA kA, w.shape? vb = some (tA, kA + 1)) (hsb : ∃ tB kB, w.shape? b = some (tB, kB)) :
    Calls Tryz.prog 172 #[.slice (some ⟨b, 0, none⟩) n c, .int .i64 i, .slice (some ⟨vb, voff, none⟩) m vc] w fun e w' =>
      e = .returned (.slice (some ⟨b, 0, none⟩) (n + m) c) ∧ w'.os = w.os ∧ w'.tape = w.tape ∧ w'.output = w.output ∧ w'.heap = ((w.setCells b ((i + m) * 6) (cs.drop (i * 6))).setCells b (i * 6) vs).heap := by
  obtain ⟨tA, kA, hsa⟩ := hsa
  obtain ⟨tB, kB, hsb⟩ := hsb
  have hz1 : ¬ ((m : Int) = 0) := by omega
  have hz2 : ¬ ((i : Int) = (n : Int)) := by omega
  have hsz : sizeB Tryz.prog 34 = some 6 := by kernel_rfl
  have hov : ∀ (o : Nat) lb cb, (callFunc 202 #[.slice (some ⟨vb, voff, none⟩) m vc, .slice (some ⟨b, o, none⟩) lb cb]).run Tryz.prog w = .ok (.value (.bool false)) w := fun o lb cb => by
    rw [run_callFunc_extern Tryz.func202 (by kernel_rfl) (by kernel_rfl) (by kernel_rfl) (e := Extern.SlicesOverlaps.overlaps #[22, 22] #[4]) (by kernel_rfl),
      run_overlaps_own w 22 4 34 Tryz.underlying22 6 (fun w => sizeB_ok hsz w) ⟨vb, voff, none⟩ ⟨b, o, none⟩ m vc lb cb hvb tA tB kA kB hsa hsb (fun o => hfz o) rfl]
    rfl
  have hdl : (cs.drop (i * 6)).length = n * 6 - i * 6 := by rw [List.length_drop, hcl]
  have hw1 : IntKind.i64.wrap ((i : Int) + (m : Int)) = (i : Int) + (m : Int) := by rw [IntKind.wrap_i64]; omega
  have hb1 : (0 : Int) ≤ (i : Int) + (m : Int) := by omega
  have hin : i ≤ n := by omega
  have htn : ((i : Int) + (m : Int)).toNat = i + m := by omega
  have hb2 : ¬ (c = i + m) := by omega
  have hb3 : (i : Int) ≤ (n : Int) + (m : Int) := by omega
  have hb4 : ¬ (c = i) := by omega
  have hmn1 : Nat.min (n + m - i) (n + m - (i + m)) = n - i := by simp only [Nat.min_def]; split <;> omega
  have hmn2 : Nat.min m (n + m - i) = m := by simp only [Nat.min_def]; split <;> omega
  have hcp1 : ∀ ty dc sc, (Builtin.copy_ #[22, 22] ty #[.slice (some ⟨b, (i + m) * 6, none⟩) (n + m - (i + m)) dc, .slice (some ⟨b, i * 6, none⟩) (n + m - i) sc]).run Tryz.prog w.drew = .ok (goInt (n - i : Nat)) (w.drew.setCells b ((i + m) * 6) (cs.drop (i * 6))) := fun ty dc sc => by
    have h := run_copy_n (P := Tryz.prog) (w := w.drew) (dT := 22) (sT := 22) (ty := ty) (elem := 34) (b := b) (o := (i + m) * 6) (dLen := n + m - (i + m)) (dCap := dc) (a := ⟨b, i * 6, none⟩) (sLen := n + m - i) (sCap := sc) (sz := 6) (cs := cs.drop (i * 6)) Tryz.underlying22 hsz (by rw [hdl, hmn1]; omega)
      (fun j v hj => by rw [Addr.add_mid]; exact hcs (i * 6 + j) v (by rwa [List.getElem?_drop] at hj))
      (fun j hj => hsp _ (by rw [hdl] at hj; omega)) (fun j hj => hfz _) (fun v hv => h1c v (List.mem_of_mem_drop hv))
    rw [hmn1] at h
    exact h
  obtain ⟨W1, hW1⟩ : ∃ W1, W1 = w.drew.setCells b ((i + m) * 6) (cs.drop (i * 6)) := ⟨_, rfl⟩
  have hsp1 : ∀ k, k < (n + m) * 6 → (W1.cell? ⟨b, k, none⟩).isSome = true := fun k hk => by
    rw [hW1]
    exact isSome_setCells' b (cs.drop (i * 6)) ((i + m) * 6) w.drew (fun j hj => hsp ((i + m) * 6 + j) (by rw [hdl] at hj; omega)) _ (hsp k hk)
  have hcp2 : ∀ (W : World), (∀ x, W.cell? x = W1.cell? x) → (∀ x, W.frozen? x = W1.frozen? x) → ∀ ty dc, (Builtin.copy_ #[22, 22] ty #[.slice (some ⟨b, i * 6, none⟩) (n + m - i) dc, .slice (some ⟨vb, voff, none⟩) m vc]).run Tryz.prog W = .ok (goInt m) (W.setCells b (i * 6) vs) := fun W hWc hWf ty dc => by
    have h := run_copy_n (P := Tryz.prog) (w := W) (dT := 22) (sT := 22) (ty := ty) (elem := 34) (b := b) (o := i * 6) (dLen := n + m - i) (dCap := dc) (a := ⟨vb, voff, none⟩) (sLen := m) (sCap := vc) (sz := 6) (cs := vs) Tryz.underlying22 hsz (by rw [hvl, hmn2])
      (fun j v hj => by
        rw [Addr.add_mid, hWc, hW1, World.cell?_setCells_out b _ _ _ _ (fun h _ => absurd h hvb)]
        exact hvs j v hj)
      (fun j hj => by rw [hWc]; exact hsp1 _ (by omega)) (fun j hj => by rw [hWf, hW1, World.frozen?_setCells]; exact hfz _) h1v
    rw [hmn2] at h
    exact h
  rw [← hW1] at hcp1
  go_enter Tryz.func172, Tryz.ntmps172
  go_wp2_with (simp only [hov])
  go_region_law (refine step_copy_r rfl _ _ 22 22 rfl _ _ (by simp [Act.eval, Act.put]) (by simp [Act.eval, Act.put]) (hcp1 _ _ _) ?_)
  go_wp2_with (at_builtin; refine wpList_copy_r _ rfl _ _ 22 22 rfl _ _ rfl rfl (hcp2 _ (fun _ => rfl) (fun _ => rfl) _ _) ?_)
  go_ret
  have r1 := setCells_rest b vs (i * 6) (w.drew.setCells b ((i + m) * 6) (cs.drop (i * 6)))
  have r2 := setCells_rest b (cs.drop (i * 6)) ((i + m) * 6) w.drew
  refine ⟨rfl, ?_⟩
  exact ⟨r1.1.trans r2.1, r1.2.1.trans r2.2.1, r1.2.2.trans r2.2.2, heap_setCells_eq b vs (i * 6) _ _ (heap_drew b _ _ w)⟩
set_option maxHeartbeats 4000000 in
set_option maxRecDepth 100000 in
theorem ins34_grow (b n c i vb voff m vc : Nat) (cs vs : List Value) (w : World) (hi : i < n) (hm : 0 < m) (hnc : n ≤ c) (hroom : c < n + m) (hbig : (n + m) * 48 ≤ 140737488355328) (hcl : cs.length = n * 6) (hvl : vs.length = m * 6)
    (hcs : ∀ j v, cs[j]? = some v → w.cell? ⟨b, j, none⟩ = some v) (hvs : ∀ j v, vs[j]? = some v → w.cell? ⟨vb, voff + j, none⟩ = some v) (h1c : ∀ v ∈ cs, v.oneCell' = true) (h1v : ∀ v ∈ vs, v.oneCell' = true) :
    Calls Tryz.prog 172 #[.slice (some ⟨b, 0, none⟩) n c, .int .i64 i, .slice (some ⟨vb, voff, none⟩) m vc] w fun e w' =>
      ∃ G ROW, e = .returned (.slice (some ⟨w.heap.size, 0, none⟩) (n + m) G) ∧ n + m ≤ G ∧ G ≤ maxLen ∧ ROW.size = G * 6 ∧ ROW.toList.take (i * 6) = cs.take (i * 6) ∧
      w'.os = w.os ∧ w'.tape = w.tape ∧ w'.output = w.output ∧ w'.heap = (((w.alloc (.cells ROW 34)).setCells w.heap.size (i * 6) vs).setCells w.heap.size ((i + m) * 6) (cs.drop (i * 6))).heap := by
  obtain ⟨i0, hi0, hz0, hzs, hzb⟩ := info_parts (P := Tryz.prog) (e := 34) (z := .agg #[.int .i64 0, .int .i64 0, .int .i64 0, .int .i64 0, .int .i64 0, .int .i64 0]) (size := 6) (bytes := 48) (by kernel_rfl)
  have hz1 : ¬ ((m : Int) = 0) := by omega
  have hz2 : ¬ ((i : Int) = (n : Int)) := by omega
  have hz3 : (c : Int) < (n : Int) + (m : Int) := by omega
  have hsz : sizeB Tryz.prog 34 = some 6 := by kernel_rfl
  have hbw : b < w.heap.size := block_lt_of_cell (hcs 0 _ (List.getElem?_eq_getElem (by omega)))
  have hvw : vb < w.heap.size := block_lt_of_cell (hvs 0 _ (List.getElem?_eq_getElem (by omega)))
  have hkk : (n : Int) + (m : Int) - (i : Int) = ((n + m - i : Nat) : Int) := by omega
  have hik : i + (n + m - i) = n + m := by omega
  have hold : (Builtin.firstCells i0.size i (.slice (some ⟨b, 0, none⟩) i c)).run Tryz.prog w.drew = .ok (cs.take (i * 6)).toArray w.drew := by
    rw [hzs]
    exact run_firstCells_some w.drew 6 i ⟨b, 0, none⟩ i c (cs.take (i * 6)) (by rw [List.length_take]; omega) (fun j v hj => by
      rw [Addr.add_mid, Nat.zero_add]
      rw [List.getElem?_take] at hj
      split at hj
      · exact hcs j v hj
      · cases hj)
  have hrz : ∀ ty, (Builtin.append_ #[22, 3] ty #[.slice (some ⟨b, 0, none⟩) i c, .int .i64 ((n : Int) + (m : Int) - (i : Int))]).run Tryz.prog w =
      .ok (.slice (some ⟨w.heap.size, 0, none⟩) (n + m) (grownCap w (n + m) c 34)) (w.drew.alloc (.cells ((cs.take (i * 6)).toArray ++ Builtin.zeroCells (Value.agg #[.int .i64 0, .int .i64 0, .int .i64 0, .int .i64 0, .int .i64 0, .int .i64 0]).cells (n + m - i) ++ Builtin.zeroCells (Value.agg #[.int .i64 0, .int .i64 0, .int .i64 0, .int .i64 0, .int .i64 0, .int .i64 0]).cells (grownCap w (n + m) c 34 - (n + m))) 34)) := fun ty => by
    have h := Lib.run_append_grow_zeros w 22 3 ty 34 i0 _ .i64 .i64 Tryz.underlying22 Tryz.underlying3 hi0 hz0 (some ⟨b, 0, none⟩) i c (cs.take (i * 6)) hold (n + m - i) (by omega) (by omega) (by omega) (by omega) (by rw [hzb]; omega) (by rw [hzb, hik]; exact growslice_fits hroom hbig)
    rw [hik] at h
    rw [hkk]
    exact h
  obtain ⟨G, hG⟩ : ∃ G, G = grownCap w (n + m) c 34 := ⟨_, rfl⟩
  obtain ⟨ROW, hROW⟩ : ∃ ROW : Array Value, ROW = (cs.take (i * 6)).toArray ++ Builtin.zeroCells (Value.agg #[.int .i64 0, .int .i64 0, .int .i64 0, .int .i64 0, .int .i64 0, .int .i64 0]).cells (n + m - i) ++ Builtin.zeroCells (Value.agg #[.int .i64 0, .int .i64 0, .int .i64 0, .int .i64 0, .int .i64 0, .int .i64 0]).cells (G - (n + m)) := ⟨_, rfl⟩
  rw [← hG] at hrz
  rw [← hROW] at hrz
  have hGn : n + m ≤ G := by rw [hG]; exact grownCap_ge w _ _ _
  have hGm : G ≤ maxLen := by rw [hG]; exact grownCap_le_maxLen w (n + m) c 34 (by unfold maxLen; omega)
  have hG63 : G ≤ 9223372036854775807 := by unfold maxLen at hGm; omega
  have hRs : ROW.size = G * 6 := by
    rw [hROW]
    simp [Builtin.zeroCells, Value.cells, hcl]
    omega
  have hRt : ROW.toList.take (i * 6) = cs.take (i * 6) := by
    rw [hROW]
    simp only [Array.toList_append, List.append_assoc]
    rw [List.take_append_of_le_length (by simp [hcl]; omega)]
    simp [List.take_take]
  obtain ⟨W1, hW1⟩ : ∃ W1, W1 = w.drew.alloc (.cells ROW 34) := ⟨_, rfl⟩
  rw [← hW1] at hrz
  have hN : ∀ j, j < (n + m) * 6 → (W1.cell? ⟨w.heap.size, j, none⟩).isSome = true := fun j hj => by
    rw [hW1, World.cell?_alloc_at (w := w.drew) ROW _ w.heap.size j rfl, Array.getElem?_eq_getElem (by omega)]; rfl
  have hNf : ∀ j, W1.frozen? ⟨w.heap.size, j, none⟩ = false := fun j => by rw [hW1]; exact World.frozen?_alloc_at (w := w.drew) ROW _ w.heap.size j rfl
  have hOb : ∀ j v, w.cell? ⟨b, j, none⟩ = some v → W1.cell? ⟨b, j, none⟩ = some v := fun j v h => by rw [hW1, World.cell?_alloc_past (w := w.drew) _ b j hbw]; exact h
  have hOv : ∀ j v, w.cell? ⟨vb, j, none⟩ = some v → W1.cell? ⟨vb, j, none⟩ = some v := fun j v h => by rw [hW1, World.cell?_alloc_past (w := w.drew) _ vb j hvw]; exact h
  have hmn1 : Nat.min m (n + m - i) = m := by simp only [Nat.min_def]; split <;> omega
  have hmn2 : Nat.min (n - i) (n + m - (i + m)) = n - i := by simp only [Nat.min_def]; split <;> omega
  have hcpA : ∀ (W : World), (∀ x, W.cell? x = W1.cell? x) → (∀ x, W.frozen? x = W1.frozen? x) → ∀ ty dc, (Builtin.copy_ #[22, 22] ty #[.slice (some ⟨w.heap.size, i * 6, none⟩) (n + m - i) dc, .slice (some ⟨vb, voff, none⟩) m vc]).run Tryz.prog W = .ok (goInt m) (W.setCells w.heap.size (i * 6) vs) := fun W hWc hWf ty dc => by
    have h := run_copy_n (P := Tryz.prog) (w := W) (dT := 22) (sT := 22) (ty := ty) (elem := 34) (b := w.heap.size) (o := i * 6) (dLen := n + m - i) (dCap := dc) (a := ⟨vb, voff, none⟩) (sLen := m) (sCap := vc) (sz := 6) (cs := vs) Tryz.underlying22 hsz (by rw [hvl, hmn1])
      (fun j v hj => by rw [Addr.add_mid, hWc]; exact hOv _ v (hvs j v hj))
      (fun j hj => by rw [hWc]; exact hN _ (by omega)) (fun j hj => by rw [hWf]; exact hNf _) h1v
    rw [hmn1] at h
    exact h
  have hGi : ¬ (G = i) := by omega
  have hGim : ¬ (G = i + m) := by omega
  have hci : ¬ (c = i) := by omega
  have hbN : b ≠ w.heap.size := by omega
  have hdl : (cs.drop (i * 6)).length = n * 6 - i * 6 := by rw [List.length_drop, hcl]
  have hcpB : ∀ (W : World), (∀ x, W.cell? x = (W1.setCells w.heap.size (i * 6) vs).cell? x) → (∀ x, W.frozen? x = (W1.setCells w.heap.size (i * 6) vs).frozen? x) → ∀ ty dc sc, (Builtin.copy_ #[22, 22] ty #[.slice (some ⟨w.heap.size, (i + m) * 6, none⟩) (n + m - (i + m)) dc, .slice (some ⟨b, i * 6, none⟩) (n - i) sc]).run Tryz.prog W = .ok (goInt (n - i : Nat)) (W.setCells w.heap.size ((i + m) * 6) (cs.drop (i * 6))) := fun W hWc hWf ty dc sc => by
    have h := run_copy_n (P := Tryz.prog) (w := W) (dT := 22) (sT := 22) (ty := ty) (elem := 34) (b := w.heap.size) (o := (i + m) * 6) (dLen := n + m - (i + m)) (dCap := dc) (a := ⟨b, i * 6, none⟩) (sLen := n - i) (sCap := sc) (sz := 6) (cs := cs.drop (i * 6)) Tryz.underlying22 hsz (by rw [hdl, hmn2]; omega)
      (fun j v hj => by
        rw [Addr.add_mid, hWc, World.cell?_setCells_out _ _ _ _ _ (fun h _ => absurd h hbN)]
        exact hOb _ v (hcs (i * 6 + j) v (by rwa [List.getElem?_drop] at hj)))
      (fun j hj => by rw [hWc]; exact isSome_setCells' _ vs (i * 6) _ (fun t ht => hN _ (by omega)) _ (hN _ (by rw [hdl] at hj; omega)))
      (fun j hj => by rw [hWf, World.frozen?_setCells]; exact hNf _) (fun v hv => h1c v (List.mem_of_mem_drop hv))
    rw [hmn2] at h
    exact h
  subst hW1
  have hE1 : ∀ x, ((w.alloc (.cells ROW 34)).drew).cell? x = (w.drew.alloc (.cells ROW 34)).cell? x := fun x => rfl
  have hE2 : ∀ x, ((w.alloc (.cells ROW 34)).drew).frozen? x = (w.drew.alloc (.cells ROW 34)).frozen? x := fun x => rfl
  have hF1 : ∀ x, (((w.alloc (.cells ROW 34)).drew.setCells w.heap.size (i * 6) vs).drew).cell? x = ((w.drew.alloc (.cells ROW 34)).setCells w.heap.size (i * 6) vs).cell? x := fun x => rfl
  have hF2 : ∀ x, (((w.alloc (.cells ROW 34)).drew.setCells w.heap.size (i * 6) vs).drew).frozen? x = ((w.drew.alloc (.cells ROW 34)).setCells w.heap.size (i * 6) vs).frozen? x := fun x => rfl
  have hw1 : IntKind.i64.wrap ((i : Int) + (m : Int)) = (i : Int) + (m : Int) := by rw [IntKind.wrap_i64]; omega
  have hb1 : (0 : Int) ≤ (i : Int) + (m : Int) := by omega
  have hin : i ≤ n := by omega
  have htn : ((i : Int) + (m : Int)).toNat = i + m := by omega
  have hb3 : (i : Int) ≤ (n : Int) := by omega
  clear hkk hik hold hROW hG
  go_enter Tryz.func172, Tryz.ntmps172
  go_wp2_with (first
    | (at_builtin; refine Lib.wpList_append_run _ rfl _ _ _ _ rfl _ _ rfl rfl _ _ (hrz _) ?_)
    | (at_builtin; refine wpList_copy_r _ rfl _ _ 22 22 rfl _ _ rfl rfl (hcpA _ hE1 hE2 _ _) ?_))
  go_region_law (refine step_copy_r rfl _ _ 22 22 rfl (.slice (some ⟨w.heap.size, (i + m) * 6, none⟩) (n + m - (i + m)) (G - (i + m))) (.slice (some ⟨b, i * 6, none⟩) (n - i) (c - i)) (by simp [Act.eval, Act.put]) (by simp [Act.eval, Act.put]) (hcpB _ hF1 hF2 3 (G - (i + m)) (c - i)) ?_)
  go_wp2
  go_ret
  have r1 := setCells_rest w.heap.size (cs.drop (i * 6)) ((i + m) * 6) ((w.alloc (.cells ROW 34)).drew.setCells w.heap.size (i * 6) vs).drew
  have r2 := setCells_rest w.heap.size vs (i * 6) (w.alloc (.cells ROW 34)).drew
  exact ⟨G, ROW, rfl, hGn, hGm, hRs, hRt, r1.1.trans r2.1, r1.2.1.trans r2.2.1, r1.2.2.trans r2.2.2, heap_setCells_eq w.heap.size _ _ _ _ (heap_drew w.heap.size _ _ (w.alloc (.cells ROW 34)))⟩
noncomputable def ins34_c : Code := Tryz.f172.body.getD .skip
noncomputable def ins34_X : Cx Tryz.prog [.one (.row 34 [.int .i64, .int .i64, .int .i64, .int .i64, .int .i64, .int .i64])] := ⟨fun _ => ⟨[], [], []⟩, Tryz.f172.ntmps, Tryz.f172.results, []⟩
theorem ins34_eq (l : List (Tup [.int .i64, .int .i64, .int .i64, .int .i64, .int .i64, .int .i64])) (x : Int) (vs : List (Tup [.int .i64, .int .i64, .int .i64, .int .i64, .int .i64, .int .i64])) : runM ins34_X 1 ins34_c [.one (.sc (.int .i64)), .one (.row 34 [.int .i64, .int .i64, .int .i64, .int .i64, .int .i64, .int .i64])] l (x, vs) = bif decide (0 ≤ x) then (bif decide (x ≤ Int.ofNat l.length) then (bif decide (Int.ofNat vs.length = 0) then some l else (bif decide (x = Int.ofNat l.length) then (bif decide ((l.length + vs.length) * 48 ≤ 140737488355328) then some (l ++ vs) else none) else none)) else none) else none := by kernel_rfl
theorem ins34_mut : MutOk Tryz.prog 172 34 [.int .i64, .int .i64, .int .i64, .int .i64, .int .i64, .int .i64] [.one (.sc (.int .i64)), .one (.row 34 [.int .i64, .int .i64, .int .i64, .int .i64, .int .i64, .int .i64])] false (insF 48) := by
  refine insert_mut (sz := 6) (by decide) ⟨by kernel_rfl, rfl, by decide, ⟨_, mut_of (X := ins34_X) (k := 1) (c := ins34_c) (by kernel_rfl) Tryz.func172 (by kernel_rfl) (by kernel_rfl) (by kernel_rfl) (fun i an c h _ => by simp [ins34_X, getL] at h) (fun _ _ => rfl), fun l vs hv hb => ?_⟩, ins34_shift, ins34_grow⟩
  have h0 : (0 : Int) ≤ Int.ofNat l.length := Int.natCast_nonneg _
  have h1 : ¬ (Int.ofNat vs.length = 0) := by have : Int.ofNat vs.length = (vs.length : Int) := rfl; omega
  refine (ins34_eq l (Int.ofNat l.length) vs).trans ?_
  rw [dcT h0, dcT (Int.le_refl (Int.ofNat l.length)), dcF h1, dcT (rfl : Int.ofNat l.length = Int.ofNat l.length), dcT hb]
  rfl
end Ex
namespace Ex
open Go Go.RowKit
open Tryz
set_option maxHeartbeats 4000000 in
set_option maxRecDepth 100000 in
theorem ins36_shift (b n c i vb voff m vc : Nat) (cs vs : List Value) (w : World) (hi : i < n) (hm : 0 < m) (hroom : n + m ≤ c) (hc63 : c ≤ 9223372036854775807) (hvb : vb ≠ b) (hcl : cs.length = n * 5) (hvl : vs.length = m * 5)
    (hcs : ∀ j v, cs[j]? = some v → w.cell? ⟨b, j, none⟩ = some v) (hsp : ∀ j, j < (n + m) * 5 → (w.cell? ⟨b, j, none⟩).isSome = true) (hfz : ∀ j, w.frozen? ⟨b, j, none⟩ = false)
    (hvs : ∀ j v, vs[j]? = some v → w.cell? ⟨vb, voff + j, none⟩ = some v) (h1c : ∀ v ∈ cs, v.oneCell' = true) (h1v : ∀ v ∈ vs, v.oneCell' = true)
    (hsa : ∃ tA kA, w.shape? vb = some (tA, kA + 1)) (hsb : ∃ tB kB, w.shape? b = some (tB, kB)) :
    Calls Tryz.prog 176 #[.slice (some ⟨b, 0, none⟩) n c, .int .i64 i, .slice (some ⟨vb, voff, none⟩) m vc] w fun e w' =>
      e = .returned (.slice (some ⟨b, 0, none⟩) (n + m) c) ∧ w'.os = w.os ∧ w'.tape = w.tape ∧ w'.output = w.output ∧ w'.heap = ((w.setCells b ((i + m) * 5) (cs.drop (i * 5))).setCells b (i * 5) vs).heap := by
  obtain ⟨tA, kA, hsa⟩ := hsa
  obtain ⟨tB, kB, hsb⟩ := hsb
  have hz1 : ¬ ((m : Int) = 0) := by omega
  have hz2 : ¬ ((i : Int) = (n : Int)) := by omega
  have hsz : sizeB Tryz.prog 36 = some 5 := by kernel_rfl
  have hov : ∀ (o : Nat) lb cb, (callFunc 204 #[.slice (some ⟨vb, voff, none⟩) m vc, .slice (some ⟨b, o, none⟩) lb cb]).run Tryz.prog w = .ok (.value (.bool false)) w := fun o lb cb => by
    rw [run_callFunc_extern Tryz.func204 (by kernel_rfl) (by kernel_rfl) (by kernel_rfl) (e := Extern.SlicesOverlaps.overlaps #[23, 23] #[4]) (by kernel_rfl),
      run_overlaps_own w 23 4 36 Tryz.underlying23 5 (fun w => sizeB_ok hsz w) ⟨vb, voff, none⟩ ⟨b, o, none⟩ m vc lb cb hvb tA tB kA kB hsa hsb (fun o => hfz o) rfl]
    rfl
  have hdl : (cs.drop (i * 5)).length = n * 5 - i * 5 := by rw [List.length_drop, hcl]
  have hw1 : IntKind.i64.wrap ((i : Int) + (m : Int)) = (i : Int) + (m : Int) := by rw [IntKind.wrap_i64]; omega
  have hb1 : (0 : Int) ≤ (i : Int) + (m : Int) := by omega
  have hin : i ≤ n := by omega
  have htn : ((i : Int) + (m : Int)).toNat = i + m := by omega
  have hb2 : ¬ (c = i + m) := by omega
  have hb3 : (i : Int) ≤ (n : Int) + (m : Int) := by omega
  have hb4 : ¬ (c = i) := by omega
  have hmn1 : Nat.min (n + m - i) (n + m - (i + m)) = n - i := by simp only [Nat.min_def]; split <;> omega
  have hmn2 : Nat.min m (n + m - i) = m := by simp only [Nat.min_def]; split <;> omega
  have hcp1 : ∀ ty dc sc, (Builtin.copy_ #[23, 23] ty #[.slice (some ⟨b, (i + m) * 5, none⟩) (n + m - (i + m)) dc, .slice (some ⟨b, i * 5, none⟩) (n + m - i) sc]).run Tryz.prog w.drew = .ok (goInt (n - i : Nat)) (w.drew.setCells b ((i + m) * 5) (cs.drop (i * 5))) := fun ty dc sc => by
    have h := run_copy_n (P := Tryz.prog) (w := w.drew) (dT := 23) (sT := 23) (ty := ty) (elem := 36) (b := b) (o := (i + m) * 5) (dLen := n + m - (i + m)) (dCap := dc) (a := ⟨b, i * 5, none⟩) (sLen := n + m - i) (sCap := sc) (sz := 5) (cs := cs.drop (i * 5)) Tryz.underlying23 hsz (by rw [hdl, hmn1]; omega)
      (fun j v hj => by rw [Addr.add_mid]; exact hcs (i * 5 + j) v (by rwa [List.getElem?_drop] at hj))
      (fun j hj => hsp _ (by rw [hdl] at hj; omega)) (fun j hj => hfz _) (fun v hv => h1c v (List.mem_of_mem_drop hv))
    rw [hmn1] at h
    exact h
  obtain ⟨W1, hW1⟩ : ∃ W1, W1 = w.drew.setCells b ((i + m) * 5) (cs.drop (i * 5)) := ⟨_, rfl⟩
  have hsp1 : ∀ k, k < (n + m) * 5 → (W1.cell? ⟨b, k, none⟩).isSome = true := fun k hk => by
    rw [hW1]
    exact isSome_setCells' b (cs.drop (i * 5)) ((i + m) * 5) w.drew (fun j hj => hsp ((i + m) * 5 + j) (by rw [hdl] at hj; omega)) _ (hsp k hk)
  have hcp2 : ∀ (W : World), (∀ x, W.cell? x = W1.cell? x) → (∀ x, W.frozen? x = W1.frozen? x) → ∀ ty dc, (Builtin.copy_ #[23, 23] ty #[.slice (some ⟨b, i * 5, none⟩) (n + m - i) dc, .slice (some ⟨vb, voff, none⟩) m vc]).run Tryz.prog W = .ok (goInt m) (W.setCells b (i * 5) vs) := fun W hWc hWf ty dc => by
    have h := run_copy_n (P := Tryz.prog) (w := W) (dT := 23) (sT := 23) (ty := ty) (elem := 36) (b := b) (o := i * 5) (dLen := n + m - i) (dCap := dc) (a := ⟨vb, voff, none⟩) (sLen := m) (sCap := vc) (sz := 5) (cs := vs) Tryz.underlying23 hsz (by rw [hvl, hmn2])
      (fun j v hj => by
        rw [Addr.add_mid, hWc, hW1, World.cell?_setCells_out b _ _ _ _ (fun h _ => absurd h hvb)]
        exact hvs j v hj)
      (fun j hj => by rw [hWc]; exact hsp1 _ (by omega)) (fun j hj => by rw [hWf, hW1, World.frozen?_setCells]; exact hfz _) h1v
    rw [hmn2] at h
    exact h
  rw [← hW1] at hcp1
  go_enter Tryz.func176, Tryz.ntmps176
  go_wp2_with (simp only [hov])
  go_region_law (refine step_copy_r rfl _ _ 23 23 rfl _ _ (by simp [Act.eval, Act.put]) (by simp [Act.eval, Act.put]) (hcp1 _ _ _) ?_)
  go_wp2_with (at_builtin; refine wpList_copy_r _ rfl _ _ 23 23 rfl _ _ rfl rfl (hcp2 _ (fun _ => rfl) (fun _ => rfl) _ _) ?_)
  go_ret
  have r1 := setCells_rest b vs (i * 5) (w.drew.setCells b ((i + m) * 5) (cs.drop (i * 5)))
  have r2 := setCells_rest b (cs.drop (i * 5)) ((i + m) * 5) w.drew
  refine ⟨rfl, ?_⟩
  exact ⟨r1.1.trans r2.1, r1.2.1.trans r2.2.1, r1.2.2.trans r2.2.2, heap_setCells_eq b vs (i * 5) _ _ (heap_drew b _ _ w)⟩
set_option maxHeartbeats 4000000 in
set_option maxRecDepth 100000 in
theorem ins36_grow (b n c i vb voff m vc : Nat) (cs vs : List Value) (w : World) (hi : i < n) (hm : 0 < m) (hnc : n ≤ c) (hroom : c < n + m) (hbig : (n + m) * 40 ≤ 140737488355328) (hcl : cs.length = n * 5) (hvl : vs.length = m * 5)
    (hcs : ∀ j v, cs[j]? = some v → w.cell? ⟨b, j, none⟩ = some v) (hvs : ∀ j v, vs[j]? = some v → w.cell? ⟨vb, voff + j, none⟩ = some v) (h1c : ∀ v ∈ cs, v.oneCell' = true) (h1v : ∀ v ∈ vs, v.oneCell' = true) :
    Calls Tryz.prog 176 #[.slice (some ⟨b, 0, none⟩) n c, .int .i64 i, .slice (some ⟨vb, voff, none⟩) m vc] w fun e w' =>
      ∃ G ROW, e = .returned (.slice (some ⟨w.heap.size, 0, none⟩) (n + m) G) ∧ n + m ≤ G ∧ G ≤ maxLen ∧ ROW.size = G * 5 ∧ ROW.toList.take (i * 5) = cs.take (i * 5) ∧
      w'.os = w.os ∧ w'.tape = w.tape ∧ w'.output = w.output ∧ w'.heap = (((w.alloc (.cells ROW 36)).setCells w.heap.size (i * 5) vs).setCells w.heap.size ((i + m) * 5) (cs.drop (i * 5))).heap := by
  obtain ⟨i0, hi0, hz0, hzs, hzb⟩ := info_parts (P := Tryz.prog) (e := 36) (z := .agg #[.int .i64 0, .int .i64 0, .int .i64 0, .int .i64 0, .int .i64 0]) (size := 5) (bytes := 40) (by kernel_rfl)
  have hz1 : ¬ ((m : Int) = 0) := by omega
  have hz2 : ¬ ((i : Int) = (n : Int)) := by omega
  have hz3 : (c : Int) < (n : Int) + (m : Int) := by omega
  have hsz : sizeB Tryz.prog 36 = some 5 := by kernel_rfl
  have hbw : b < w.heap.size := block_lt_of_cell (hcs 0 _ (List.getElem?_eq_getElem (by omega)))
  have hvw : vb < w.heap.size := block_lt_of_cell (hvs 0 _ (List.getElem?_eq_getElem (by omega)))
  have hkk : (n : Int) + (m : Int) - (i : Int) = ((n + m - i : Nat) : Int) := by omega
  have hik : i + (n + m - i) = n + m := by omega
  have hold : (Builtin.firstCells i0.size i (.slice (some ⟨b, 0, none⟩) i c)).run Tryz.prog w.drew = .ok (cs.take (i * 5)).toArray w.drew := by
    rw [hzs]
    exact run_firstCells_some w.drew 5 i ⟨b, 0, none⟩ i c (cs.take (i * 5)) (by rw [List.length_take]; omega) (fun j v hj => by
      rw [Addr.add_mid, Nat.zero_add]
      rw [List.getElem?_take] at hj
      split at hj
      · exact hcs j v hj
      · cases hj)
  have hrz : ∀ ty, (Builtin.append_ #[23, 3] ty #[.slice (some ⟨b, 0, none⟩) i c, .int .i64 ((n : Int) + (m : Int) - (i : Int))]).run Tryz.prog w =
      .ok (.slice (some ⟨w.heap.size, 0, none⟩) (n + m) (grownCap w (n + m) c 36)) (w.drew.alloc (.cells ((cs.take (i * 5)).toArray ++ Builtin.zeroCells (Value.agg #[.int .i64 0, .int .i64 0, .int .i64 0, .int .i64 0, .int .i64 0]).cells (n + m - i) ++ Builtin.zeroCells (Value.agg #[.int .i64 0, .int .i64 0, .int .i64 0, .int .i64 0, .int .i64 0]).cells (grownCap w (n + m) c 36 - (n + m))) 36)) := fun ty => by
    have h := Lib.run_append_grow_zeros w 23 3 ty 36 i0 _ .i64 .i64 Tryz.underlying23 Tryz.underlying3 hi0 hz0 (some ⟨b, 0, none⟩) i c (cs.take (i * 5)) hold (n + m - i) (by omega) (by omega) (by omega) (by omega) (by rw [hzb]; omega) (by rw [hzb, hik]; exact growslice_fits hroom hbig)
    rw [hik] at h
    rw [hkk]
    exact h
  obtain ⟨G, hG⟩ : ∃ G, G = grownCap w (n + m) c 36 := ⟨_, rfl⟩
  obtain ⟨ROW, hROW⟩ : ∃ ROW : Array Value, ROW = (cs.take (i * 5)).toArray ++ Builtin.zeroCells (Value.agg #[.int .i64 0, .int .i64 0, .int .i64 0, .int .i64 0, .int .i64 0]).cells (n + m - i) ++ Builtin.zeroCells (Value.agg #[.int .i64 0, .int .i64 0, .int .i64 0, .int .i64 0, .int .i64 0]).cells (G - (n + m)) := ⟨_, rfl⟩
  rw [← hG] at hrz
  rw [← hROW] at hrz
  have hGn : n + m ≤ G := by rw [hG]; exact grownCap_ge w _ _ _
  have hGm : G ≤ maxLen := by rw [hG]; exact grownCap_le_maxLen w (n + m) c 36 (by unfold maxLen; omega)
  have hG63 : G ≤ 9223372036854775807 := by unfold maxLen at hGm; omega
  have hRs : ROW.size = G * 5 := by
    rw [hROW]
    simp [Builtin.zeroCells, Value.cells, hcl]
    omega
  have hRt : ROW.toList.take (i * 5) = cs.take (i * 5) := by
    rw [hROW]
    simp only [Array.toList_append, List.append_assoc]
    rw [List.take_append_of_le_length (by simp [hcl]; omega)]
    simp [List.take_take]
  obtain ⟨W1, hW1⟩ : ∃ W1, W1 = w.drew.alloc (.cells ROW 36) := ⟨_, rfl⟩
  rw [← hW1] at hrz
  have hN : ∀ j, j < (n + m) * 5 → (W1.cell? ⟨w.heap.size, j, none⟩).isSome = true := fun j hj => by
    rw [hW1, World.cell?_alloc_at (w := w.drew) ROW _ w.heap.size j rfl, Array.getElem?_eq_getElem (by omega)]; rfl
  have hNf : ∀ j, W1.frozen? ⟨w.heap.size, j, none⟩ = false := fun j => by rw [hW1]; exact World.frozen?_alloc_at (w := w.drew) ROW _ w.heap.size j rfl
  have hOb : ∀ j v, w.cell? ⟨b, j, none⟩ = some v → W1.cell? ⟨b, j, none⟩ = some v := fun j v h => by rw [hW1, World.cell?_alloc_past (w := w.drew) _ b j hbw]; exact h
  have hOv : ∀ j v, w.cell? ⟨vb, j, none⟩ = some v → W1.cell? ⟨vb, j, none⟩ = some v := fun j v h => by rw [hW1, World.cell?_alloc_past (w := w.drew) _ vb j hvw]; exact h
  have hmn1 : Nat.min m (n + m - i) = m := by simp only [Nat.min_def]; split <;> omega
  have hmn2 : Nat.min (n - i) (n + m - (i + m)) = n - i := by simp only [Nat.min_def]; split <;> omega
  have hcpA : ∀ (W : World), (∀ x, W.cell? x = W1.cell? x) → (∀ x, W.frozen? x = W1.frozen? x) → ∀ ty dc, (Builtin.copy_ #[23, 23] ty #[.slice (some ⟨w.heap.size, i * 5, none⟩) (n + m - i) dc, .slice (some ⟨vb, voff, none⟩) m vc]).run Tryz.prog W = .ok (goInt m) (W.setCells w.heap.size (i * 5) vs) := fun W hWc hWf ty dc => by
    have h := run_copy_n (P := Tryz.prog) (w := W) (dT := 23) (sT := 23) (ty := ty) (elem := 36) (b := w.heap.size) (o := i * 5) (dLen := n + m - i) (dCap := dc) (a := ⟨vb, voff, none⟩) (sLen := m) (sCap := vc) (sz := 5) (cs := vs) Tryz.underlying23 hsz (by rw [hvl, hmn1])
      (fun j v hj => by rw [Addr.add_mid, hWc]; exact hOv _ v (hvs j v hj))
      (fun j hj => by rw [hWc]; exact hN _ (by omega)) (fun j hj => by rw [hWf]; exact hNf _) h1v
    rw [hmn1] at h
    exact h
  have hGi : ¬ (G = i) := by omega
  have hGim : ¬ (G = i + m) := by omega
  have hci : ¬ (c = i) := by omega
  have hbN : b ≠ w.heap.size := by omega
  have hdl : (cs.drop (i * 5)).length = n * 5 - i * 5 := by rw [List.length_drop, hcl]
  have hcpB : ∀ (W : World), (∀ x, W.cell? x = (W1.setCells w.heap.size (i * 5) vs).cell? x) → (∀ x, W.frozen? x = (W1.setCells w.heap.size (i * 5) vs).frozen? x) → ∀ ty dc sc, (Builtin.copy_ #[23, 23] ty #[.slice (some ⟨w.heap.size, (i + m) * 5, none⟩) (n + m - (i + m)) dc, .slice (some ⟨b, i * 5, none⟩) (n - i) sc]).run Tryz.prog W = .ok (goInt (n - i : Nat)) (W.setCells w.heap.size ((i + m) * 5) (cs.drop (i * 5))) := fun W hWc hWf ty dc sc => by
    have h := run_copy_n (P := Tryz.prog) (w := W) (dT := 23) (sT := 23) (ty := ty) (elem := 36) (b := w.heap.size) (o := (i + m) * 5) (dLen := n + m - (i + m)) (dCap := dc) (a := ⟨b, i * 5, none⟩) (sLen := n - i) (sCap := sc) (sz := 5) (cs := cs.drop (i * 5)) Tryz.underlying23 hsz (by rw [hdl, hmn2]; omega)
      (fun j v hj => by
        rw [Addr.add_mid, hWc, World.cell?_setCells_out _ _ _ _ _ (fun h _ => absurd h hbN)]
        exact hOb _ v (hcs (i * 5 + j) v (by rwa [List.getElem?_drop] at hj)))
      (fun j hj => by rw [hWc]; exact isSome_setCells' _ vs (i * 5) _ (fun t ht => hN _ (by omega)) _ (hN _ (by rw [hdl] at hj; omega)))
      (fun j hj => by rw [hWf, World.frozen?_setCells]; exact hNf _) (fun v hv => h1c v (List.mem_of_mem_drop hv))
    rw [hmn2] at h
    exact h
  subst hW1
  have hE1 : ∀ x, ((w.alloc (.cells ROW 36)).drew).cell? x = (w.drew.alloc (.cells ROW 36)).cell? x := fun x => rfl
  have hE2 : ∀ x, ((w.alloc (.cells ROW 36)).drew).frozen? x = (w.drew.alloc (.cells ROW 36)).frozen? x := fun x => rfl
  have hF1 : ∀ x, (((w.alloc (.cells ROW 36)).drew.setCells w.heap.size (i * 5) vs).drew).cell? x = ((w.drew.alloc (.cells ROW 36)).setCells w.heap.size (i * 5) vs).cell? x := fun x => rfl
  have hF2 : ∀ x, (((w.alloc (.cells ROW 36)).drew.setCells w.heap.size (i * 5) vs).drew).frozen? x = ((w.drew.alloc (.cells ROW 36)).setCells w.heap.size (i * 5) vs).frozen? x := fun x => rfl
  have hw1 : IntKind.i64.wrap ((i : Int) + (m : Int)) = (i : Int) + (m : Int) := by rw [IntKind.wrap_i64]; omega
  have hb1 : (0 : Int) ≤ (i : Int) + (m : Int) := by omega
  have hin : i ≤ n := by omega
  have htn : ((i : Int) + (m : Int)).toNat = i + m := by omega
  have hb3 : (i : Int) ≤ (n : Int) := by omega
  clear hkk hik hold hROW hG
  go_enter Tryz.func176, Tryz.ntmps176
  go_wp2_with (first
    | (at_builtin; refine Lib.wpList_append_run _ rfl _ _ _ _ rfl _ _ rfl rfl _ _ (hrz _) ?_)
    | (at_builtin; refine wpList_copy_r _ rfl _ _ 23 23 rfl _ _ rfl rfl (hcpA _ hE1 hE2 _ _) ?_))
  go_region_law (refine step_copy_r rfl _ _ 23 23 rfl (.slice (some ⟨w.heap.size, (i + m) * 5, none⟩) (n + m - (i + m)) (G - (i + m))) (.slice (some ⟨b, i * 5, none⟩) (n - i) (c - i)) (by simp [Act.eval, Act.put]) (by simp [Act.eval, Act.put]) (hcpB _ hF1 hF2 3 (G - (i + m)) (c - i)) ?_)
  go_wp2
  go_ret
  have r1 := setCells_rest w.heap.size (cs.drop (i * 5)) ((i + m) * 5) ((w.alloc (.cells ROW 36)).drew.setCells w.heap.size (i * 5) vs).drew
  have r2 := setCells_rest w.heap.size vs (i * 5) (w.alloc (.cells ROW 36)).drew
  exact ⟨G, ROW, rfl, hGn, hGm, hRs, hRt, r1.1.trans r2.1, r1.2.1.trans r2.2.1, r1.2.2.trans r2.2.2, heap_setCells_eq w.heap.size _ _ _ _ (heap_drew w.heap.size _ _ (w.alloc (.cells ROW 36)))⟩
noncomputable def ins36_c : Code := Tryz.f176.body.getD .skip
noncomputable def ins36_X : Cx Tryz.prog [.one (.row 36 [.int .i64, .int .i64, .int .i64, .int .i64, .int .i64])] := ⟨fun _ => ⟨[], [], []⟩, Tryz.f176.ntmps, Tryz.f176.results, []⟩
theorem ins36_eq (l : List (Tup [.int .i64, .int .i64, .int .i64, .int .i64, .int .i64])) (x : Int) (vs : List (Tup [.int .i64, .int .i64, .int .i64, .int .i64, .int .i64])) : runM ins36_X 1 ins36_c [.one (.sc (.int .i64)), .one (.row 36 [.int .i64, .int .i64, .int .i64, .int .i64, .int .i64])] l (x, vs) = bif decide (0 ≤ x) then (bif decide (x ≤ Int.ofNat l.length) then (bif decide (Int.ofNat vs.length = 0) then some l else (bif decide (x = Int.ofNat l.length) then (bif decide ((l.length + vs.length) * 40 ≤ 140737488355328) then some (l ++ vs) else none) else none)) else none) else none := by kernel_rfl
theorem ins36_mut : MutOk Tryz.prog 176 36 [.int .i64, .int .i64, .int .i64, .int .i64, .int .i64] [.one (.sc (.int .i64)), .one (.row 36 [.int .i64, .int .i64, .int .i64, .int .i64, .int .i64])] false (insF 40) := by
  refine insert_mut (sz := 5) (by decide) ⟨by kernel_rfl, rfl, by decide, ⟨_, mut_of (X := ins36_X) (k := 1) (c := ins36_c) (by kernel_rfl) Tryz.func176 (by kernel_rfl) (by kernel_rfl) (by kernel_rfl) (fun i an c h _ => by simp [ins36_X, getL] at h) (fun _ _ => rfl), fun l vs hv hb => ?_⟩, ins36_shift, ins36_grow⟩
  have h0 : (0 : Int) ≤ Int.ofNat l.length := Int.natCast_nonneg _
  have h1 : ¬ (Int.ofNat vs.length = 0) := by have : Int.ofNat vs.length = (vs.length : Int) := rfl; omega
  refine (ins36_eq l (Int.ofNat l.length) vs).trans ?_
  rw [dcT h0, dcT (Int.le_refl (Int.ofNat l.length)), dcF h1, dcT (rfl : Int.ofNat l.length = Int.ofNat l.length), dcT hb]
  rfl
end Ex
namespace Ex
open Go Go.RowKit
def delF {α : Type} (l : List α) (x : Int × Int) : Option (List α) := bif decide (0 ≤ x.1) && (decide (x.1 < x.2) && decide (x.2 ≤ Int.ofNat l.length)) then some (l.take x.1.toNat ++ l.drop x.2.toNat) else none
theorem delF_some {α : Type} {l r : List α} {x : Int × Int} (h : delF l x = some r) : ∃ i j : Nat, x.1 = i ∧ x.2 = j ∧ i < j ∧ j ≤ l.length ∧ r = l.take i ++ l.drop j := by
  obtain ⟨i, j⟩ := x
  unfold delF at h
  rcases cond_some h with ⟨h1, h2⟩ | ⟨_, h2⟩
  · simp only [Bool.and_eq_true, decide_eq_true_eq] at h1
    obtain ⟨h3, h4, h5⟩ := h1
    have h5' : j ≤ (l.length : Int) := h5
    exact ⟨i.toNat, j.toNat, by simp only; omega, by simp only; omega, by omega, by omega, (Option.some.inj h2).symm⟩
  · cases h2
theorem step_app_r {P : Program} {ops : Array Oper} {o : Oper} {a : Act} {w : World} {K : Act → World → Prop} {Q : Exit → Act → World → Prop} {E : Prop}
    (hg : o.guard = none) (d x : Operand) (dT sT : TypeId) (hop : o.op = Op.call { callee := Callee.builtin Builtin.append, args := #[d, x], argTypes := #[dT, sT] })
    (v u : Value) (hd : a.eval d = v) (hx : a.eval x = u) {v' : Value} {w' : World} (hr : (Builtin.append_ #[dT, sT] o.type #[v, u]).run P w = .ok v' w') (hK : K (a.put o.dst v') w') :
    if Region.wanted o (yielded ops a.tmps) = true then Oper.wp P o a w K Q else E := by
  have hw : Region.wanted o (yielded ops a.tmps) = true := by simp [Region.wanted, hg]
  rw [if_pos hw]
  unfold Oper.wp
  simp [execOp, hop, resolve, invoke, builtin, hd, hx, hr, Result.andThen]
  exact hK
open Tryz
set_option maxHeartbeats 4000000 in
set_option maxRecDepth 100000 in
theorem del36_walk (b n c i j : Nat) (cs : List Value) (w : World) (cur : Array Value) (T : TypeId) (hij : i < j) (hjn : j ≤ n) (hnc : n ≤ c) (hc63 : c ≤ 9223372036854775807) (hh : w.heap[b]? = some (.cells cur T (0, 0))) (hsz : cur.size = c * 5) (hcl : cs.length = n * 5)
    (hcs : cur.toList.take (n * 5) = cs) (h1c : ∀ v ∈ cs, v.oneCell' = true) :
    Calls Tryz.prog 177 #[.slice (some ⟨b, 0, none⟩) n c, .int .i64 i, .int .i64 j] w fun e w' =>
      e = .returned (.slice (some ⟨b, 0, none⟩) (i + (n - j)) c) ∧ w'.os = w.os ∧ w'.tape = w.tape ∧ w'.output = w.output ∧ w'.heap = ((w.setCells b (i * 5) (cs.drop (j * 5))).setCells b ((i + (n - j)) * 5) (Builtin.zeroCells (Value.agg #[.int .i64 0, .int .i64 0, .int .i64 0, .int .i64 0, .int .i64 0]).cells (n - (i + (n - j)))).toList).heap := by
  obtain ⟨i0, hi0, hz0, hzs, hzb⟩ := info_parts (P := Tryz.prog) (e := 36) (z := .agg #[.int .i64 0, .int .i64 0, .int .i64 0, .int .i64 0, .int .i64 0]) (size := 5) (bytes := 40) (by kernel_rfl)
  have hcell : ∀ q, q < c * 5 → (w.cell? ⟨b, q, none⟩).isSome = true := fun q hq => by rw [blk_cell hh, Array.getElem?_eq_getElem (by omega)]; rfl
  have hget : ∀ q v, cs[q]? = some v → w.cell? ⟨b, q, none⟩ = some v := fun q v hq => by
    rw [← hcs] at hq
    have hlt : q < n * 5 := by
      have := (List.getElem?_eq_some_iff.1 hq).1
      rw [List.length_take] at this; omega
    rw [List.getElem?_take_of_lt hlt] at hq
    rw [blk_cell hh]
    simpa using hq
  have hfz : ∀ q, w.frozen? ⟨b, q, none⟩ = false := fun q => blk_frozen hh
  have hdl : (cs.drop (j * 5)).length = (n - j) * 5 := by rw [List.length_drop, hcl]; omega
  have hne : ¬ ((i : Int) = (j : Int)) := by omega
  have hb0 : (i : Int) ≤ (j : Int) := by omega
  have hb1 : (j : Int) ≤ (n : Int) := by omega
  have hb2 : (n : Int) ≤ (c : Int) := by omega
  have hb3 : (i : Int) ≤ (c : Int) := by omega
  have hb4 : (j : Int) ≤ (c : Int) := by omega
  have hb5 : ((i + (n - j) : Nat) : Int) ≤ (n : Int) := by omega
  have hq1 : ¬ (c = i + (n - j)) := by omega
  have hci : ¬ (c = i) := by omega
  obtain ⟨W1, hW1⟩ : ∃ W1, W1 = w.drew.setCells b (i * 5) (cs.drop (j * 5)) := ⟨_, rfl⟩
  have hap : ∀ (ad : Addr) ty, (∀ q u, (cs.drop (j * 5))[q]? = some u → w.cell? (ad.add q) = some u) → (Builtin.append_ #[23, 23] ty #[.slice (some ⟨b, 0, none⟩) i c, .slice (some ad) (n - j) (c - j)]).run Tryz.prog w.drew = .ok (.slice (some ⟨b, 0, none⟩) (i + (n - j)) c) W1 := fun ad ty had => by
    have h := run_append_room_cells (P := Tryz.prog) w.drew 23 ty 36 i0 Tryz.underlying23 hi0 b 0 i c ad (n - j) (c - j) (cs.drop (j * 5)) (by rw [hzs]; exact hdl) had (fun v hv => h1c v (List.mem_of_mem_drop hv)) (by omega) (fun q hq => by rw [hzs, Nat.zero_add]; exact hcell _ (by rw [hdl] at hq; omega)) (fun q hq => hfz _)
    rw [hzs, Nat.zero_add] at h
    rw [hW1]
    exact h
  have hh1 : W1.heap[b]? = some (.cells (setFrom cur (i * 5) (cs.drop (j * 5))) T (0, 0)) := by rw [hW1]; exact heap_setCells _ _ w.drew _ hh
  have hs1 : (setFrom cur (i * 5) (cs.drop (j * 5))).size = c * 5 := by
    rw [← Array.length_toList, setFrom_toList _ _ _ (by rw [hdl, Array.length_toList]; omega)]
    have := setL_len cur.toList (cs.drop (j * 5)) (i * 5) (by rw [hdl, Array.length_toList]; omega)
    unfold setL at this
    rw [this, Array.length_toList, hsz]
  have hclr : ∀ ty, (Builtin.clear_ #[23] ty #[.slice (some ⟨b, (i + (n - j)) * 5, none⟩) (n - (i + (n - j))) (c - (i + (n - j)))]).run Tryz.prog W1 = .ok (.tuple #[]) (W1.setCells b ((i + (n - j)) * 5) (Builtin.zeroCells (Value.agg #[.int .i64 0, .int .i64 0, .int .i64 0, .int .i64 0, .int .i64 0]).cells (n - (i + (n - j)))).toList) := fun ty =>
    run_clear_cells (P := Tryz.prog) (w := W1) (t := 23) (e := 36) (ty := ty) (z := .agg #[.int .i64 0, .int .i64 0, .int .i64 0, .int .i64 0, .int .i64 0]) (g := b) (off := (i + (n - j)) * 5) (n := n - (i + (n - j))) (c := c - (i + (n - j))) (T := T) Tryz.underlying23 (by kernel_rfl) (by decide) (by decide) (by omega) hh1 (by rw [hs1]; show (i + (n - j)) * 5 + (n - (i + (n - j))) * 5 ≤ c * 5; omega)
  clear hh1 hs1
  have hclr2 := hclr
  rw [hW1] at hclr2
  by_cases hcj : c = j
  · have hn0 : n - j = 0 := by omega
    have had : ∀ q u, (cs.drop (j * 5))[q]? = some u → w.cell? ((⟨b, 0, none⟩ : Addr).add q) = some u := fun q u hq => by
      rw [List.getElem?_eq_none (by rw [hdl, hn0]; omega)] at hq
      cases hq
    go_enter Tryz.func177, Tryz.ntmps177
    go_wp2_with fail
    go_region_law (refine step_app_r rfl _ _ 23 23 rfl (.slice (some ⟨b, 0, none⟩) i c) (.slice (some ⟨b, 0, none⟩) (n - j) (c - j)) (by first | (simp [Act.eval, Act.put]; done) | (simp [Act.eval, Act.put]; omega)) (by first | (simp [Act.eval, Act.put, hcj]; done) | (simp [Act.eval, Act.put, hcj]; omega)) (hap ⟨b, 0, none⟩ _ had) ?_)
    try go_wp2_with fail
    simp only [hn0, Nat.add_zero, hcj] at hclr2
    rw [hclr2]
    simp only [Result.andThen_ok, Oper.upon_value]
    go_wp2_with fail
    go_ret
    have r1 := setCells_rest b (Builtin.zeroCells (Value.agg #[.int .i64 0, .int .i64 0, .int .i64 0, .int .i64 0, .int .i64 0]).cells (n - i)).toList (i * 5) (w.drew.setCells b (i * 5) (cs.drop (j * 5)))
    have r2 := setCells_rest b (cs.drop (j * 5)) (i * 5) w.drew
    exact ⟨by rw [hn0, hcj]; rfl, r1.1.trans r2.1, r1.2.1.trans r2.2.1, r1.2.2.trans r2.2.2, by simp only [hn0, Nat.add_zero]; exact heap_setCells_eq b _ _ _ _ (heap_drew b _ _ w)⟩
  · have had : ∀ q u, (cs.drop (j * 5))[q]? = some u → w.cell? ((⟨b, j * 5, none⟩ : Addr).add q) = some u := fun q u hq => by
      rw [Addr.add_mid]
      rw [List.getElem?_drop] at hq
      exact hget _ _ hq
    go_enter Tryz.func177, Tryz.ntmps177
    go_wp2_with fail
    go_region_law (refine step_app_r rfl _ _ 23 23 rfl (.slice (some ⟨b, 0, none⟩) i c) (.slice (some ⟨b, j * 5, none⟩) (n - j) (c - j)) (by simp [Act.eval, Act.put]) (by simp [Act.eval, Act.put, hcj]) (hap ⟨b, j * 5, none⟩ _ had) ?_)
    try go_wp2_with fail
    go_ret
    have r1 := setCells_rest b (Builtin.zeroCells (Value.agg #[.int .i64 0, .int .i64 0, .int .i64 0, .int .i64 0, .int .i64 0]).cells (n - (i + (n - j)))).toList ((i + (n - j)) * 5) (w.drew.setCells b (i * 5) (cs.drop (j * 5)))
    have r2 := setCells_rest b (cs.drop (j * 5)) (i * 5) w.drew
    exact ⟨rfl, r1.1.trans r2.1, r1.2.1.trans r2.2.1, r1.2.2.trans r2.2.2, heap_setCells_eq b _ _ _ _ (heap_drew b _ _ w)⟩
theorem del36_mut : MutOk Tryz.prog 177 36 [.int .i64, .int .i64, .int .i64, .int .i64, .int .i64] [.one (.sc (.int .i64)), .one (.sc (.int .i64))] false delF := by
  intro l (x : Int × Int) r w v vals base Fz Rd xs hx hown hbase hrows hFz hRd hno hargs hgk
  obtain ⟨i, j, hi1, hj1, hij, hjl, rfl⟩ := delF_some hx
  obtain ⟨xi, xj⟩ := x
  simp only at hi1 hj1
  subst hi1
  subst hj1
  change List (Tup [.int .i64, .int .i64, .int .i64, .int .i64, .int .i64]) at l
  simp only [PTIs, PKIs, LKIs, SKIs] at hargs
  obtain ⟨u1, us, rfl, rfl, u2, rfl, rfl⟩ := hargs
  have hsl : ([.int .i64, .int .i64] : List SK).length = 2 := rfl
  rcases hown.2 with ⟨_, hl0⟩ | ⟨g, cap, cur, rfl, hg1, hg2, hg3, hg4, hg5, hg6⟩
  · omega
  have hlx : xs.length = l.length * 5 := hown.1
  have hx1 : ∀ u ∈ xs, u.oneCell' = true := hrows.one hown.1
  have hm63 : cap ≤ 9223372036854775807 := by unfold maxLen at hg4; omega
  have hcz : cur.size = cap * 5 := hg5
  have htk : cur.toList.take (l.length * 5) = xs := hg6
  refine (del36_walk g l.length cap i j xs w cur 36 hij hjl hg3 hm63 hg2 hcz hlx htk hx1).mono fun e w' hh => ?_
  obtain ⟨rfl, ho, ht, hou, hheap⟩ := hh
  have hdl : (xs.drop (j * 5)).length = l.length * 5 - j * 5 := by rw [List.length_drop, hlx]
  have hoth : ∀ k, k ≠ g → w'.heap[k]? = w.heap[k]? := fun k hk => by rw [hheap, heap_setCells_other hk, heap_setCells_other hk]
  have hst : Stays (fun k => Fz k) (fun k => Fz k) w w' := fun k hk => ⟨hk, hoth k (fun e => (hno g rfl).1 (e ▸ hk))⟩
  have hlen : (l.take i ++ l.drop j).length = i + (l.length - j) := by rw [List.length_append, List.length_take, List.length_drop]; omega
  generalize hzz : (Builtin.zeroCells (Value.agg #[.int .i64 0, .int .i64 0, .int .i64 0, .int .i64 0, .int .i64 0]).cells (l.length - (i + (l.length - j)))).toList = zz at hheap
  have hzl : zz.length = (l.length - (i + (l.length - j))) * 5 := by rw [← hzz]; simp [Builtin.zeroCells, Value.cells]
  have a1 := heap_setCells (xs.drop (j * 5)) (i * 5) w _ hg2
  have a2 := heap_setCells zz ((i + (l.length - j)) * 5) _ _ a1
  rw [← hheap] at a2
  have hcl : cur.toList.length = cap * 5 := by rw [Array.length_toList, hcz]
  have b1 : (setFrom cur (i * 5) (xs.drop (j * 5))).toList = setL cur.toList (i * 5) (xs.drop (j * 5)) := setFrom_toList _ _ _ (by rw [hdl]; omega)
  have b1l : (setL cur.toList (i * 5) (xs.drop (j * 5))).length = cur.toList.length := setL_len _ _ _ (by rw [hdl]; omega)
  have b2 : (setFrom (setFrom cur (i * 5) (xs.drop (j * 5))) ((i + (l.length - j)) * 5) zz).toList = setL (setL cur.toList (i * 5) (xs.drop (j * 5))) ((i + (l.length - j)) * 5) zz := by
    rw [← b1]; exact setFrom_toList _ _ _ (by rw [b1, b1l]; omega)
  have hrowsxs : RowsIs Fz w' [.int .i64, .int .i64, .int .i64, .int .i64, .int .i64] (l.take i ++ l.drop j) (xs.take (i * 5) ++ xs.drop (j * 5)) := by
    have h1 := RowsIs.take (RowsIs.move hst hrows) i
    have h2 := RowsIs.drop (RowsIs.move hst hrows) j
    refine RowsIs.app h1 h2 ?_
    show (xs.take (i * 5)).length = (l.take i).length * 5
    rw [List.length_take, List.length_take, hlx]; omega
  refine ⟨.slice (some ⟨g, 0, none⟩) (i + (l.length - j)) cap, xs.take (i * 5) ++ xs.drop (j * 5), rfl, fun h => (by cases h), ⟨?_, .inr ⟨g, cap, _, by rw [hlen], hg1, a2, by rw [hlen]; omega, hg4, ?_, ?_⟩⟩, hrowsxs, fun k hk => .inl hk, ⟨ho, ht, hou⟩, by rw [hheap, size_setCells, size_setCells]; exact hbase, fun k hk hne => hoth k (fun e => hne (by rw [e]; rfl))⟩
  · show _ = (l.take i ++ l.drop j).length * 5
    rw [hlen, List.length_append, List.length_take, hdl, hlx]; omega
  · show _ = cap * 5
    rw [← Array.length_toList, b2, setL_len _ _ _ (by rw [b1l]; omega), b1l, hcl]
  · show List.take ((l.take i ++ l.drop j).length * 5) _ = _
    rw [hlen, b2]
    apply List.ext_getElem?
    intro q
    by_cases hq : q < (i + (l.length - j)) * 5
    · rw [List.getElem?_take_of_lt hq, setL_get _ _ _ _ (by rw [b1l]; omega), if_neg (by omega), setL_get _ _ _ _ (by rw [hdl]; omega), hdl]
      by_cases h1 : q < i * 5
      · rw [if_neg (by omega), List.getElem?_append_left (by rw [List.length_take]; omega), ← htk, List.take_take, List.getElem?_take_of_lt (by omega)]
      · rw [if_pos (by omega), List.getElem?_append_right (by rw [List.length_take]; omega), List.length_take, Nat.min_eq_left (by omega)]
    · rw [List.getElem?_eq_none (by rw [List.length_take]; omega), List.getElem?_eq_none (by rw [List.length_append, List.length_take, hdl]; omega)]
end Ex
end Go.Proofs.YthlhbnaloefncaaGreatDoor
