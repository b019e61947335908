/- An executor of translated code on abstract states: sets of numbers (maps from numbers to true). -/
import Derived.Test.YtggikacbelogcaaGreatExN
import Derived.MapKept
namespace Go.Proofs.YtggikacbelogcaaGreat.Ex
open Go Go.RowKit
set_option linter.unusedVariables false
set_option linter.unusedSimpArgs false
def hasN (n : Int) : List Int → Bool
  | [] => false
  | x :: r => bif decide (n = x) then true else hasN n r
theorem hasN_iff {n : Int} : ∀ {l : List Int}, hasN n l = true ↔ n ∈ l
  | [] => by simp [hasN]
  | x :: r => by
    unfold hasN
    rw [List.mem_cons, ← hasN_iff (l := r)]
    by_cases h : n = x <;> simp [h]
/-- A set with a number more. -/
def putN (n : Int) (l : List Int) : List Int := bif hasN n l then l else l ++ [n]
def setTy (P : Program) (t : TypeId) : Bool := match P.underlying t with
  | some (.map kt et) => (match P.underlying kt with
    | some (.int k) => decide (k = .i64)
    | _ => false) && (match P.underlying et with
    | some .bool => (match zeroB P et with
      | some (.bool b) => !b
      | _ => false)
    | _ => false)
  | _ => false
theorem setTy_ok {P : Program} {t : TypeId} (h : setTy P t = true) : ∃ kt et, P.underlying t = some (.map kt et) ∧ P.underlying kt = some (.int .i64) ∧ zeroB P et = some (.bool false) := by
  unfold setTy at h
  split at h
  · rename_i kt et ht
    rw [Bool.and_eq_true] at h
    obtain ⟨h1, h2⟩ := h
    split at h1
    · rename_i k hk
      have := of_decide_eq_true h1
      subst this
      split at h2
      · split at h2
        · rename_i b hz
          cases b with
          | false => exact ⟨kt, et, ht, hk, hz⟩
          | true => cases h2
        · cases h2
      · cases h2
    · cases h1
  · cases h
abbrev entK (e : MapEntry) : Value × Value := (e.key, e.val)
abbrev setKV (n : Int) : Value × Value := (Value.int .i64 n, Value.bool true)
section
variable {P : Program} {w : World} {es : Array MapEntry} {l : List Int} {n : Int} {t kt et : TypeId} {b clock : Nat}
theorem set_keys (h : es.toList.map entK = l.map setKV) : ∀ x ∈ es.toList, MapKept.IsKey (.int .i64) x.key := fun x hx => by
  have : entK x ∈ l.map setKV := by rw [← h]; exact List.mem_map_of_mem hx
  obtain ⟨n, _, hn⟩ := List.mem_map.1 this
  have := congrArg Prod.fst hn
  simp only [entK, setKV] at this
  rw [← this]
  rfl
theorem set_find (h : es.toList.map entK = l.map setKV) (n : Int) : (hasN n l = false ∧ Instr.findNow (.int .i64) (.int .i64 n) es.toList 0 = some none) ∨ (hasN n l = true ∧ ∃ j e0, Instr.findNow (.int .i64) (.int .i64 n) es.toList 0 = some (some (j, .bool true)) ∧ es[j]? = some e0 ∧ e0.key = .int .i64 n ∧ e0.val = .bool true) := by
  have hkey : MapKept.IsKey (.int .i64) (.int .i64 n) := rfl
  rcases MapKept.findNow_spec hkey es.toList 0 (set_keys h) with ⟨h1, h2⟩ | ⟨j, e0, h1, h2, h3⟩
  · refine .inl ⟨?_, h1⟩
    cases hb : hasN n l with
    | false => rfl
    | true =>
      have : setKV n ∈ es.toList.map entK := by rw [h]; exact List.mem_map_of_mem (hasN_iff.1 hb)
      obtain ⟨x, hx, hn⟩ := List.mem_map.1 this
      exact absurd (congrArg Prod.fst hn) (h2 x hx)
  · have hm : entK e0 ∈ l.map setKV := by rw [← h]; exact List.mem_map_of_mem (List.mem_of_getElem? h2)
    obtain ⟨q, hq, he⟩ := List.mem_map.1 hm
    have hv : e0.val = .bool true := (congrArg Prod.snd he).symm
    have hk : Value.int .i64 q = e0.key := congrArg Prod.fst he
    rw [h3] at hk
    cases hk
    refine .inr ⟨hasN_iff.2 hq, j, e0, ?_, by simpa using h2, h3, hv⟩
    rw [← hv]
    simpa using h1
theorem run_set_lookup (ht : P.underlying t = some (.map kt et)) (hk : P.underlying kt = some (.int .i64)) (hz : ∀ w, (zeroValue et).run P w = .ok (.bool false) w) (hb : w.heap[b]? = some (.map es clock)) (h : es.toList.map entK = l.map setKV) (n : Int) (c : Bool) :
    (Instr.lookup t (.map (some b)) (.int .i64 n) c).run P w = .ok (if c then .tuple #[.bool (hasN n l), .bool (hasN n l)] else .bool (hasN n l)) w := by
  have hkey : MapKept.IsKey (.int .i64) (.int .i64 n) := rfl
  rcases set_find h n with ⟨h1, h2⟩ | ⟨h1, j, e0, h2, h3, h4, h5⟩
  · cases c <;> simp [Instr.lookup, run_underlying ht, MapKept.run_getObj_map hb, MapKept.run_checkKey hk hkey, MapKept.run_findKey hk h2, Result.andThen, hz, h1]
  · cases c <;> simp [Instr.lookup, run_underlying ht, MapKept.run_getObj_map hb, MapKept.run_checkKey hk hkey, MapKept.run_findKey hk h2, Result.andThen, hz, h1]
theorem run_set_update (ht : P.underlying t = some (.map kt et)) (hk : P.underlying kt = some (.int .i64)) (hb : w.heap[b]? = some (.map es clock)) (h : es.toList.map entK = l.map setKV) (n : Int) :
    ∃ es' clock', (Instr.mapUpdate t (.map (some b)) (.int .i64 n) (.bool true)).run P w = .ok () { w with heap := w.heap.setIfInBounds b (.map es' clock') } ∧ es'.toList.map entK = (putN n l).map setKV := by
  have hkey : MapKept.IsKey (.int .i64) (.int .i64 n) := rfl
  rcases set_find h n with ⟨h1, h2⟩ | ⟨h1, j, e0, h2, h3, h4, h5⟩
  · refine ⟨es.push ⟨.int .i64 n, .bool true, clock⟩, clock + 1, ?_, ?_⟩
    · simp [Instr.mapUpdate, run_underlying ht, MapKept.run_getObj_map hb, MapKept.run_checkKey hk hkey, MapKept.run_findKey hk h2, MapKept.run_setObj_map _ hb, Result.andThen]
    · unfold putN
      rw [h1]
      simp [h]
  · refine ⟨es.modify j (fun e' => { e' with key := .int .i64 n, val := .bool true }), clock, ?_, ?_⟩
    · simp [Instr.mapUpdate, run_underlying ht, MapKept.run_getObj_map hb, MapKept.run_checkKey hk hkey, MapKept.run_findKey hk h2, h3, h4, MapKept.run_keyThatStays hkey, MapKept.run_setObj_map _ hb, Result.andThen]
    · unfold putN
      rw [h1]
      simp only [cond_true]
      rw [← h]
      apply List.ext_getElem?
      intro q
      simp only [List.getElem?_map, Array.getElem?_toList, Array.getElem?_modify]
      split
      · rename_i e
        subst e
        rw [h3]
        simp [entK, h4, h5]
      · rfl
end
section
variable {P : Program} {w0 : Org} {w : World} {N : Nat} {S : AS} {o : Oper} {ρ : Type} {r : ρ} {id0 : Nat}
theorem Heap.newset {w0 : Org} {w : World} {m : Nm} {s : AS} {id0 : Nat} (h : Heap w0 m s.σ w) (hf : Fresh id0 s) :
    ∃ m', Grows (old id0) m m' w (w.alloc (.map #[] 0)) ∧ Heap w0 m' (updσ s.σ [(id0, .mset [])]) (w.alloc (.map #[] 0)) ∧ m'.b id0 = w.heap.size := by
  let m' : Nm := ⟨m.v, setAt m.b id0 w.heap.size, m.F⟩
  have hg : Grows (old id0) m m' w (w.alloc (.map #[] 0)) := ⟨fun _ _ => rfl, fun i hi => setAt_ne (old_ne (k := 0) (by decide) hi), fun b hb => ⟨hb, Below.heap_alloc w _ b (h.flt b hb)⟩⟩
  refine ⟨m', hg, ?_, setAt_self _ _ _⟩
  have hb0 : w0.heap.size ≤ w.heap.size := h.below.size
  refine Heap.step (fun i => i = id0) h hg hf.σ (fun i hi => ⟨by rw [updσ_one, if_neg hi], hf.p i⟩) (fun i k hi hk => ⟨Below.heap_alloc w _ k (blk_lt h hk).1, (blk_lt h hk).2.1⟩) (fun i hi' => ?_) (fun i j k hij hi' h1 h2 => ?_) (fun k hk => Nat.lt_of_lt_of_le (h.flt k hk) (by simp)) (h.below.alloc hb0 _)
  · subst hi'
    rw [updσ_one, if_pos rfl]
    refine ⟨by show w0.heap.size ≤ setAt m.b i w.heap.size i; rw [setAt_self]; exact hb0, by show ¬ m.F (setAt m.b i w.heap.size i); rw [setAt_self]; exact fun hh => absurd (h.flt _ hh) (by omega), #[], 0, ?_, rfl⟩
    show (w.alloc _).heap[setAt m.b i w.heap.size i]? = _
    rw [setAt_self]
    exact Array.getElem?_push_size
  · subst hi'
    rw [updσ_one, if_pos rfl] at h1
    have h1' : w.heap.size = k := by
      have : setAt m.b i w.heap.size i = k := Option.some.inj h1
      rwa [setAt_self] at this
    rw [updσ_one, if_neg (Ne.symm hij)] at h2
    have h3 : blkOf m' j (s.σ j) = blkOf m j (s.σ j) := blkOf.same hg (hf.p j)
    rw [h3] at h2
    have := (blk_lt h h2).1
    omega
def opMakeMap (P : Program) (id0 : Nat) (t : TypeId) (κ : Eff → Option ρ) : Option ρ := bif setTy P t then κ ⟨.mp id0, [(id0, .mset [])]⟩ else none
theorem makeMap_ok {t : TypeId} {κ : Eff → Option ρ} (ho : o.op = .makeMap t none) (h : opMakeMap P id0 t κ = some r) : Sound P w0 N S id0 o κ r := by
  rcases cond_some h with ⟨hi, hh⟩ | ⟨_, h2⟩
  · refine ⟨_, hh, ?_⟩
    intro S' m a w hl hf hr K Q hK
    obtain ⟨m', hg, hH, hb⟩ := Heap.newset hr.heap hf
    have hrun : (execOp a.eval o).run P w = .ok (.value (.map (some w.heap.size))) (w.alloc (.map #[] 0)) := by
      unfold execOp
      simp only [ho]
      rfl
    unfold Oper.wp
    rw [hrun, Oper.upon_value]
    refine hK m' _ _ hg hH ?_
    rw [← hb]
    exact .mp
  · cases h2
def opLookup (P : Program) (S : AS) (t : TypeId) (x k : PV) (c : Bool) (κ : PV → Option ρ) : Option ρ := match x, k with
  | .mp i, .v (.int kd n) => match S.σ i with
    | .mset l => bif setTy P t && decide (kd = .i64) then κ (bif c then .tup [.v (.bool (hasN n l)), .v (.bool (hasN n l))] else .v (.bool (hasN n l))) else none
    | _ => none
  | _, _ => none
theorem lookup_ok {t : TypeId} {x k : Operand} {c : Bool} {κ : PV → Option ρ} (ho : o.op = .lookup t x k c) (h : opLookup P S t (S.ev x) (S.ev k) c κ = some r) : SoundV P w0 N S o κ r := by
  unfold opLookup at h
  split at h
  · rename_i i kd n hx hk
    split at h
    · rename_i l hσ
      rcases cond_some h with ⟨hc, hh⟩ | ⟨_, h2⟩
      · rw [Bool.and_eq_true] at hc
        have hkd := of_decide_eq_true hc.2
        subst hkd
        obtain ⟨kt, et, ht, hkt, he⟩ := setTy_ok hc.1
        refine ⟨_, hh, fun m a w hr => ?_⟩
        have h1 := hr.ev x
        have h2 := hr.ev k
        rw [hx] at h1
        rw [hk] at h2
        generalize hz : a.eval x = z at h1
        generalize hz2 : a.eval k = z2 at h2
        cases h1
        cases h2
        have hb := hr.heap.blk i
        rw [hσ] at hb
        obtain ⟨b1, b2, es, cl, b3, b4⟩ := hb
        have hrun := run_set_lookup ht hkt (zeroB_ok he) b3 b4 n c
        refine ⟨if c then .tuple #[.bool (hasN n l), .bool (hasN n l)] else .bool (hasN n l), ?_, ?_⟩
        · unfold execOp
          simp only [ho, hz, hz2]
          simp [Sem.run_bind, hrun]
        · cases c
          · exact .v
          · exact .tup (.cons .v (.cons .v .nil))
      · cases h2
    · cases h
  · cases h
def opMapUpdate (P : Program) (S : AS) (t : TypeId) (x k y : PV) (κ : Eff → Option ρ) : Option ρ := match x, k, y with
  | .mp i, .v (.int kd n), .v (.bool true) => match S.σ i with
    | .mset l => bif setTy P t && decide (kd = .i64) then κ ⟨.v undef, [(i, .mset (putN n l))]⟩ else none
    | _ => none
  | _, _, _ => none
theorem mapUpdate_ok {t : TypeId} {x k y : Operand} {κ : Eff → Option ρ} (ho : o.op = .mapUpdate t x k y) (h : opMapUpdate P S t (S.ev x) (S.ev k) (S.ev y) κ = some r) : Sound P w0 N S id0 o κ r := by
  unfold opMapUpdate at h
  split at h
  · rename_i i kd n hx hk hy
    split at h
    · rename_i l hσ
      rcases cond_some h with ⟨hc, hh⟩ | ⟨_, h2⟩
      · rw [Bool.and_eq_true] at hc
        have hkd := of_decide_eq_true hc.2
        subst hkd
        obtain ⟨kt, et, ht, hkt, he⟩ := setTy_ok hc.1
        refine ⟨_, hh, ?_⟩
        intro S' m a w hl hf hr K Q hK
        have hr0 := hr.le hl
        have h1 := hr0.ev x
        have h2 := hr0.ev k
        have h3 := hr0.ev y
        rw [hx] at h1
        rw [hk] at h2
        rw [hy] at h3
        generalize hz : a.eval x = z at h1
        generalize hz2 : a.eval k = z2 at h2
        generalize hz3 : a.eval y = z3 at h3
        cases h1
        cases h2
        cases h3
        have hσ' : S'.σ i = .mset l := Le.blk hl hσ (by simp)
        have hb := hr.heap.blk i
        rw [hσ'] at hb
        obtain ⟨b1, b2, es, cl, b3, b4⟩ := hb
        obtain ⟨es', cl', hrun, hes⟩ := run_set_update ht hkt b3 b4 n
        obtain ⟨hs1, hs2⟩ := MapKept.heap_set (w := w) (o' := .map es' cl') b3
        have hrun' : (execOp a.eval o).run P w = .ok .skip { w with heap := w.heap.setIfInBounds (m.b i) (.map es' cl') } := by
          unfold execOp
          simp only [ho, hz, hz2, hz3]
          simp [Sem.run_bind, hrun]
        unfold Oper.wp
        rw [hrun', Oper.upon_skip]
        have hFb : ∀ k, m.F k → k ≠ m.b i := fun k hk e => b2 (e ▸ hk)
        have hg : Grows (old id0) m m w { w with heap := w.heap.setIfInBounds (m.b i) (.map es' cl') } := ⟨fun _ _ => rfl, fun _ _ => rfl, fun k hk => ⟨hk, hs2 k (hFb k hk)⟩⟩
        have hblk : blkOf m i (S'.σ i) = some (m.b i) := by rw [hσ']; rfl
        refine hK m _ _ hg ?_ .v
        refine Heap.step (fun j => j = i) hr.heap hg hf.σ (fun j hj => ⟨by rw [updσ_one, if_neg hj], hf.p j⟩) (fun j k hj hk => ⟨hs2 k (fun e => hr.heap.apart j i k hj hk (by rw [hblk, e])), (blk_lt hr.heap hk).2.1⟩) (fun j hj => ?_) (fun j q k hjq hj h1 h2 => ?_) (fun k hk => by simpa using hr.heap.flt k hk) ?_
        · subst hj
          rw [updσ_one, if_pos rfl]
          exact ⟨b1, b2, es', cl', hs1, hes⟩
        · subst hj
          rw [updσ_one, if_pos rfl] at h1
          rw [updσ_one, if_neg (Ne.symm hjq)] at h2
          exact hr.heap.apart j q k hjq (by rw [hσ']; exact h1) h2
        · have hbl := hr.heap.below
          exact ⟨hbl.os, hbl.tape, hbl.output, by simpa using hbl.size, fun k hk => (hs2 k (by omega)).trans (hbl.block k hk)⟩
      · cases h2
    · cases h
  · cases h
end
end Go.Proofs.YtggikacbelogcaaGreat.Ex
