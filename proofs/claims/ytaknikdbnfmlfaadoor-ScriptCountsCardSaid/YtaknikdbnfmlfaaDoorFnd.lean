/- direct.find: the range over the map of looks, in whatever order: what is found does not hang on it. -/
import Derived.Test.YtaknikdbnfmlfaaDoorForms
import Derived.Test.YtaknikdbnfmlfaaDoorBld
import Derived.Test.YtaknikdbnfmlfaaDoorExEE
import Derived.Test.YtaknikdbnfmlfaaDoorExR
namespace Go.Proofs.YtaknikdbnfmlfaaDoor.Ex
open Go Go.RowKit
open Go.ChangeMaps (setBlock)
set_option linter.unusedVariables false
set_option linter.unusedSimpArgs false
set_option maxRecDepth 100000
section
variable {P : Program} {w0 : Org} {w w' : World} {N : Nat} {S : AS} {o : Oper} {ρ : Type} {r : ρ} {id0 : Nat} {m : Nm}
/-- An object that a call, or an operation, has made; what else is new is never written again. -/
theorem Heap.objMade (h : Heap w0 m S.σ w) (hf : Fresh id0 S) {n b : Nat} {x : OT n} (hb : Below w.heap.size w w') (gs : List Nat) (hgs : ∀ k ∈ gs, w.heap.size ≤ k ∧ k < w'.heap.size)
    (hO : OIs n x w0.heap.size b (fun k => k ∈ gs) (fun k => m.F k ∨ (w.heap.size ≤ k ∧ k < w'.heap.size ∧ k ∉ gs)) w') :
    ∃ m', Grows (old id0) m m' w w' ∧ Heap w0 m' (updσ S.σ [(id0, .obj n x (id0 + 1))]) w' ∧ m'.b id0 = b := by
  let m' : Nm := ⟨setAt m.v (id0 + 1) (tupV gs), setAt m.b id0 b, fun k => m.F k ∨ (w.heap.size ≤ k ∧ k < w'.heap.size ∧ k ∉ gs)⟩
  have hG : Grows (old id0) m m' w w' := ⟨fun q hq => setAt_ne (old_ne (k := 1) (by decide) hq), fun q hq => setAt_ne (old_ne (k := 0) (by decide) hq), fun k hk => ⟨.inl hk, hb.block k (h.flt k hk)⟩⟩
  have hbs : w0.heap.size ≤ w.heap.size := h.below.size
  have e : fpV (m'.v (id0 + 1)) = fun k => k ∈ gs := by
    show fpV (setAt m.v (id0 + 1) (tupV gs) (id0 + 1)) = _
    rw [setAt_self, fpV_tupV]
  refine ⟨m', hG, Heap.step (fun q => q = id0) h hG hf.σ (fun q hq => ⟨by rw [updσ_one, if_neg hq], hf.p q⟩) (fun q k hq hk => ⟨hb.block k (blk_lt h hk).1, fun hF => ?_⟩) (fun q hq => ?_) (fun q l k hql hq h1 h2 => ?_) (fun k hk => ?_) (h.below.trans (hb.mono hbs)), setAt_self _ _ _⟩
  · rcases hF with hF | ⟨h1, _⟩
    · exact (blk_lt h hk).2.1 hF
    · have := (blk_lt h hk).1; omega
  · subst hq
    rw [updσ_one, if_pos rfl]
    refine ⟨fun k hk => ?_, by rw [e, show m'.b q = b from setAt_self _ _ _]; exact hO⟩
    rw [e] at hk
    obtain ⟨h1, h2⟩ := hgs k hk
    exact ⟨by omega, h2, fun hF => hF.elim (fun h3 => by have := h.flt _ h3; omega) (fun h3 => h3.2.2 hk)⟩
  · subst hq
    rw [updσ_one, if_pos rfl] at h1
    rw [updσ_one, if_neg (Ne.symm hql), blkOf.same hG (hf.σ l) (hf.p l)] at h2
    have h1' : fpV (m'.v (q + 1)) k := h1
    rw [e] at h1'
    have := (hgs k h1').1
    have := (blk_lt h h2).1
    omega
  · rcases hk with hk | ⟨_, h2, _⟩
    · exact Nat.lt_of_lt_of_le (h.flt k hk) hb.size
    · exact h2
theorem ev_mp {m : Nm} {a : Act} {x : Operand} {i : Nat} (hr : Rep w0 N m S a w) (h : S.ev x = .mp i) : a.eval x = .map (some (m.b i)) := by
  have h1 := hr.ev x
  rw [h] at h1
  generalize a.eval x = z at h1
  cases h1
  rfl
theorem ev_ptr {m : Nm} {a : Act} {x : Operand} {i off : Nat} (hr : Rep w0 N m S a w) (h : S.ev x = .ptr i off) : a.eval x = .pointer (some ⟨m.b i, off, none⟩) := by
  have h1 := hr.ev x
  rw [h] at h1
  generalize a.eval x = z at h1
  cases h1
  rfl
theorem le_σ {S' : AS} (hl : Le S S') {i : Nat} {b : ABlk} (h : S.σ i = b) (hn : b ≠ .no) : S'.σ i = b := by
  rcases hl.σ i with h1 | h1
  · exact absurd (h.symm.trans h1) hn
  · rw [h1, h]
end
section
variable {w0 : Org} {w : World} {N : Nat} {S : AS} {o : Oper} {ρ : Type} {r : ρ} {id0 : Nat}
/-- A look, as a value of the executor. -/
def lkP : Int × Int → PV
  | (1, 1) => .agg [.v (.string ⟨#[97]⟩), .v (.string ⟨#[99, 111, 110, 116, 97, 99, 116]⟩), .fn 75 []]
  | (2, 1) => .agg [.v (.string ⟨#[100]⟩), .v (.string ⟨#[99, 111, 110, 116, 97, 99, 116]⟩), .fn 73 []]
  | (3, 1) => .agg [.v (.string ⟨#[99]⟩), .v (.string ⟨#[99, 111, 110, 116, 97, 99, 116]⟩), .fn 74 []]
  | (1, 2) => .agg [.v (.string ⟨#[97]⟩), .v (.string ⟨#[114, 97, 110, 103, 101]⟩), .fn 78 [.rptr true [.fnc 76] () 0]]
  | (2, 2) => .agg [.v (.string ⟨#[100]⟩), .v (.string ⟨#[114, 97, 110, 103, 101]⟩), .fn 76 []]
  | (3, 2) => .agg [.v (.string ⟨#[99]⟩), .v (.string ⟨#[114, 97, 110, 103, 101]⟩), .fn 77 [.rptr true [.fnc 76] () 0]]
  | _ => .un
theorem lkP_ok {m : Nm} {B0 H : Nat} {p : Int × Int} (hp : p ∈ fKsG) (hF : m.F H) (hB : B0 ≤ H) (hb : w.heap[H]? = some (.cells #[fnG 76] 71 (0, 0))) : RepV m B0 w (lkP p) (lkG H p) := by
  have hbox : RepV m B0 w (.rptr true [.fnc 76] () 0) (.pointer (some ⟨H, 0, none⟩)) := by
    refine .rptr (b := H) (o := 0) ?_
    simp only [SKIs]
    exact ⟨H, 0, [fnG 76], rfl, ⟨hF, fun _ => hB⟩, rfl, CellsAt.of_block hb, by simp only [TupIs, SKIs]; exact ⟨_, rfl, rfl⟩⟩
  have look : ∀ (s1 s2 : ByteArray) (f : FuncId) (caps : List PV) (cv : List Value), RepVs m B0 w caps cv → RepV m B0 w (.agg [.v (.string s1), .v (.string s2), .fn f caps]) (.agg #[.string s1, .string s2, .func (.func f) #[] cv.toArray]) := fun s1 s2 f caps cv h => .agg (.cons .v (.cons .v (.cons (.fn h) .nil)))
  simp only [fKsG, List.mem_cons, List.not_mem_nil, or_false] at hp
  rcases hp with rfl | rfl | rfl | rfl | rfl | rfl
  · exact look _ _ _ _ _ .nil
  · exact look _ _ _ _ _ .nil
  · exact look _ _ _ _ _ .nil
  · exact look _ _ _ _ _ (.cons hbox .nil)
  · exact look _ _ _ _ _ .nil
  · exact look _ _ _ _ _ (.cons hbox .nil)
def fmOn (S : AS) (o : Oper) : Bool := match o.op with
  | .call ⟨.value x, _, _⟩ => match S.ev x with
    | .fn f _ => Nat.beq f 41
    | _ => false
  | .range _ _ => true
  | .entry _ => true
  | _ => false
def fmRun (S : AS) (id0 : Nat) (o : Oper) (κ : Eff → Option ρ) : Option ρ := match o.op with
  | .call ⟨.value x, args, _⟩ => match S.ev x, args.toList with
    | .fn f [], [] => bif Nat.beq f 41 then κ ⟨.mp id0, [(id0, .obj 2 () (id0 + 1))]⟩ else none
    | _, _ => none
  | .range t x => bif Nat.beq t 74 then match S.ev x with
    | .mp i => match S.σ i with
      | .obj n _ _ => bif Nat.beq n 2 then κ ⟨.ptr id0 0, [(id0, .obj 1 ((6, []) : Nat × List (Int × Int)) (id0 + 1))]⟩ else none
      | _ => none
    | _ => none
    else none
  | .entry x => match S.ev x with
    | .ptr i off => match S.σ i with
      | .obj n y _ => bif Nat.beq off 0 then match asObj n 1 y with
          | some (_, p :: _) => κ ⟨.tup [.agg [.v (.int .i64 p.1), .v (.int .i64 p.2)], lkP p], []⟩
          | _ => none
        else none
      | _ => none
    | _ => none
  | _ => none
theorem FMap.key {w : World} {b H : Nat} {es : Array MapEntry} {l : List (Int × Int)} (h : FMap w b H es l) {e : MapEntry} (he : e ∈ es.toList) : ∃ p ∈ fKsG, e.key = kyG p ∧ e.val = lkG H p := by
  have : (e.key, e.val) ∈ es.toList.map fun e => (e.key, e.val) := List.mem_map.2 ⟨e, he, rfl⟩
  rw [h.kv] at this
  obtain ⟨p, hp, e2⟩ := List.mem_map.1 this
  exact ⟨p, (h.mem p).1 hp, (congrArg Prod.fst e2).symm, (congrArg Prod.snd e2).symm⟩
theorem FMap.len {w : World} {b H : Nat} {es : Array MapEntry} {l : List (Int × Int)} (h : FMap w b H es l) : es.size = 6 := by
  have h1 : l.length = fKsG.length := ((List.perm_ext_iff_of_nodup h.nd (by decide)).2 h.mem).length_eq
  have h2 := congrArg List.length h.born
  simp at h2
  rw [h2, h1]; rfl
theorem FMap.lt {w : World} {b H : Nat} {es : Array MapEntry} {l : List (Int × Int)} (h : FMap w b H es l) : ∀ x ∈ es.toList, x.born < l.length := fun x hx => by
  have : x.born ∈ es.toList.map (·.born) := List.mem_map.2 ⟨x, hx, rfl⟩
  rw [h.born] at this
  exact List.mem_range.1 this
theorem left0 (es : Array MapEntry) : leftOf es #[] = es := by
  unfold leftOf
  exact Array.filter_eq_self.2 fun a _ => by simp
theorem kyG_inj {p q : Int × Int} (h : kyG p = kyG q) : p = q := by
  unfold kyG at h
  simp at h
  exact Prod.ext h.1 h.2
theorem fm_ok {κ : Eff → Option ρ} (h : fmRun S id0 o κ = some r) : Sound Tryd.prog w0 N S id0 o κ r := by
  unfold fmRun at h
  split at h
  · rename_i x args ts ho
    split at h
    · rename_i f hx hargs
      have hl : args = #[] := by apply Array.ext'; simpa using hargs
      subst hl
      rcases cond_some h with ⟨hf, hh⟩ | ⟨_, h2⟩
      · have := Nat.eq_of_beq_eq_true hf
        subst this
        refine ⟨_, hh, ?_⟩
        intro S' m a w hl hf hr K Q hK
        have hr0 := hr.le hl
        have hrun := run_call (P := Tryd.prog) (w := w) ho (ev_fn hr0 hx) (fun _ _ => by kernel_rfl)
        unfold Oper.wp
        rw [hrun, Oper.upon_enter]
        have hav : (#[] : Array Operand).map a.eval = #[] := by simp
        rw [hav]
        refine (forms_calls w hr.gk).mono fun e w' hh => ?_
        obtain ⟨H, b, es, c, l, ⟨hbn, rfl⟩, rfl, h1, h2, h3, h4, h5, h6, h7, h8⟩ := hh
        have hbl : b < w'.heap.size := (Array.getElem?_eq_some_iff.1 h4).1
        obtain ⟨m', hG, hH, hb⟩ := Heap.objMade (n := 2) (x := ()) (b := b) hr.heap hf h8 [] (fun k hk => by cases hk) ⟨H, es, l, .inr ⟨by omega, hbl, by simp⟩, .inr ⟨h1, by omega, by simp⟩, Nat.le_trans hr.heap.below.size h1, h3, h4, hbn, h5, h6, fun p => (h7 p).trans (fIns_mem p)⟩
        exact hK m' w' _ hG hH (hb ▸ .mp)
      · cases h2
    · cases h
  · rename_i t x ho
    rcases cond_some h with ⟨ht, g⟩ | ⟨_, h2⟩
    · have := Nat.eq_of_beq_eq_true ht
      subst this
      clear h
      split at g
      · rename_i i hx
        split at g
        · rename_i n y j hσ
          rcases cond_some g with ⟨hn, hh⟩ | ⟨_, h2⟩
          · have := Nat.eq_of_beq_eq_true hn
            subst this
            refine ⟨_, hh, ?_⟩
            intro S' m a w hl hf hr K Q hK
            have hr0 := hr.le hl
            have hσ' := le_σ hl hσ (by simp)
            have hb := hr.heap.blk i
            rw [hσ'] at hb
            obtain ⟨b1, H, es, l, hFb, hFH, hB, hm⟩ := hb
            have hrun : (execOp a.eval o).run Tryd.prog w = .ok (.value (.pointer (some ⟨w.heap.size, 0, none⟩))) (w.alloc (.mapIter (some (m.b i)) l.length #[] l.length)) := by
              refine run_of_w (s := Instr.range 74 (a.eval x)) (by unfold execOp; simp only [ho]) ?_
              rw [ev_mp hr0 hx]
              exact run_range_map w _ _ _ (m.b i) es l.length Tryd.underlying74 hm.mp
            unfold Oper.wp
            rw [hrun, Oper.upon_value]
            have hold : ∀ k, k < w.heap.size → (w.alloc (.mapIter (some (m.b i)) l.length #[] l.length)).heap[k]? = w.heap[k]? := fun k hk => Below.heap_alloc w _ k hk
            have hsz : (w.alloc (.mapIter (some (m.b i)) l.length #[] l.length)).heap.size = w.heap.size + 1 := by show (w.heap.push _).size = _; rw [Array.size_push]
            obtain ⟨m', hG, hH, hb⟩ := Heap.objMade (n := 1) (x := ((6, []) : Nat × List (Int × Int))) (b := w.heap.size) hr.heap hf ((Below.refl _ _).alloc (Nat.le_refl _) _) [w.heap.size] (fun k hk => by
              obtain rfl : k = w.heap.size := by simpa using hk
              exact ⟨Nat.le_refl _, by omega⟩) ⟨by simp, m.b i, H, es, l, .inl hFb, .inl hFH, hB, hm.move (hold _ (hr.heap.flt _ hFb)) (hold _ (hr.heap.flt _ hFH)), #[], by show (w.heap.push _)[w.heap.size]? = _; exact Array.getElem?_push_size, by rw [left0, hm.len], fun e he hs => by simp at hs, fun p r hp => by cases hp⟩
            exact hK m' _ _ hG hH (hb ▸ .ptr)
          · cases h2
        · cases g
      · cases g
    · cases h2
  · rename_i x ho
    split at h
    · rename_i i off hx
      split at h
      · rename_i n y j hσ
        rcases cond_some h with ⟨h0, g⟩ | ⟨_, h2⟩
        · have := Nat.eq_of_beq_eq_true h0
          subst this
          clear h
          split at g
          · rename_i q p vis hy
            obtain ⟨rfl, rfl⟩ := asObj_some hy
            refine SoundV.sound (κ := κ) ⟨_, g, fun m a w hr => ?_⟩
            have hb := hr.heap.blk i
            rw [hσ] at hb
            obtain ⟨b1, hfb, bm, H, es, l, hFb, hFH, hB, hm, seen, g1, g2, g3, g4⟩ := hb
            obtain ⟨seen', e, rfl, he, hk, hv⟩ := g4 p vis rfl
            refine ⟨.tuple #[e.key, e.val], run_of (s := Instr.entry (a.eval x)) (by unfold execOp; simp only [ho]) ?_, ?_⟩
            · rw [ev_ptr hr hx]
              exact run_entry_at w (m.b i) bm l.length seen' es l.length e g1 hm.mp he (by rw [hm.born]; exact List.nodup_range)
            · have hp : p ∈ fKsG := by
                obtain ⟨p', hp', hk', _⟩ := hm.key he
                rwa [kyG_inj (hk.symm.trans hk')]
              rw [hk, hv]
              exact .tup (.cons (.agg (.cons .v (.cons .v .nil))) (.cons (lkP_ok hp hFH hB hm.box) .nil))
          · cases g
        · cases h2
      · cases h
    · cases h
  · cases h
def hkFm : Hook Tryd.prog := ⟨fmOn, fun S id0 o κ => fmRun S id0 o κ, fun _ h => fm_ok h⟩
/-- The next look: none is left, or one that was not seen yet. -/
theorem next_wp {m : Nm} {a : Act} {i j n t : Nat} {vis : List (Int × Int)} {K : Act → World → Prop} {Q : Exit → Act → World → Prop} (hr : Rep w0 N m S a w) (hf : Fresh id0 S) (ho : o.op = .next (.tmp t) false) (ht : S.fr t = .ptr i 0) (hσ : S.σ i = .obj 1 ((n, vis) : Nat × List (Int × Int)) j)
    (hend : (∀ p ∈ fKsG, p ∈ vis) → K (a.put o.dst (.tuple #[.bool false])) w)
    (hnext : ∀ (p : Int × Int) (n' : Nat) m' w' x y, p ∈ fKsG → n' < n → Grows (old id0) m m' w w' → Heap w0 m' (updσ S.σ [(i, .obj 1 ((n', p :: vis) : Nat × List (Int × Int)) id0)]) w' → K (a.put o.dst (.tuple #[.bool true, x, y])) w') : o.wp Tryd.prog a w K Q := by
  have hb := hr.heap.blk i
  rw [hσ] at hb
  obtain ⟨b1, hfb, bm, H, es, l, hFb, hFH, hB, hm, seen, g1, g2, g3, g4⟩ := hb
  have hev : a.eval (.tmp t) = .pointer (some ⟨m.b i, 0, none⟩) := ev_ptr hr ht
  rcases run_next_at (P := Tryd.prog) w o.type (m.b i) bm l.length l.length seen es l.length g1 hm.mp hm.lt (Nat.le_refl _) with ⟨hz, hrun⟩ | ⟨e, he, w1, hw1, hrun⟩
  · have hex : (execOp a.eval o).run Tryd.prog w = .ok (.value (.tuple #[.bool false])) w := run_of (s := Instr.next (a.eval (.tmp t)) false o.type) (by unfold execOp; simp only [ho]) (by rw [hev]; exact hrun)
    unfold Oper.wp
    rw [hex, Oper.upon_value]
    refine hend fun p hp => ?_
    have hl := (hm.mem p).2 hp
    have h1 : (kyG p, lkG H p) ∈ es.toList.map fun e => (e.key, e.val) := by rw [hm.kv]; exact List.mem_map.2 ⟨p, hl, rfl⟩
    obtain ⟨e, he, hek⟩ := List.mem_map.1 h1
    obtain ⟨q, hq, hkq⟩ := g3 e he (all_seen _ _ hz e he)
    have := kyG_inj (hkq.symm.trans (congrArg Prod.fst hek))
    rwa [← this]
  · obtain ⟨he1, he2⟩ := mem_left he
    obtain ⟨p, hp, hk, hv⟩ := hm.key he1
    have hex : (execOp a.eval o).run Tryd.prog w = .ok (.value (.tuple #[.bool true, e.key, e.val])) (setBlock w1 (m.b i) (.mapIter (some bm) l.length (seen.push e.born) l.length)) := run_of_w (s := Instr.next (a.eval (.tmp t)) false o.type) (by unfold execOp; simp only [ho]) (by rw [hev]; exact hrun)
    unfold Oper.wp
    rw [hex, Oper.upon_value]
    have hh : w1.heap = w.heap := by rcases hw1 with rfl | rfl <;> rfl
    have hlt : m.b i < w.heap.size := (Array.getElem?_eq_some_iff.1 g1).1
    have hset : ∀ k, k ≠ m.b i → (setBlock w1 (m.b i) (.mapIter (some bm) l.length (seen.push e.born) l.length)).heap[k]? = w.heap[k]? := fun k hk => by
      show (w1.heap.setIfInBounds (m.b i) _)[k]? = _
      rw [Array.getElem?_setIfInBounds_ne (Ne.symm hk), hh]
    have hT : Turned (fpV (m.v j)) w (setBlock w1 (m.b i) (.mapIter (some bm) l.length (seen.push e.born) l.length)) := by
      refine ⟨by rcases hw1 with rfl | rfl <;> rfl, by rcases hw1 with rfl | rfl <;> rfl, by rcases hw1 with rfl | rfl <;> rfl, ?_, fun k hk hf => hset k (fun e => hf (e ▸ hfb))⟩
      show _ ≤ (w1.heap.setIfInBounds _ _).size
      rw [Array.size_setIfInBounds, hh]
      exact Nat.le_refl _
    have hnb : ∀ k, m.F k → k ≠ m.b i := fun k hk e => (b1 (m.b i) hfb).2.2 (e ▸ hk)
    obtain ⟨m', hG, hH⟩ := Heap.objStep (n := 1) (x := ((n, vis) : Nat × List (Int × Int))) (x' := (((leftOf es (seen.push e.born)).size, p :: vis) : Nat × List (Int × Int))) hr.heap hf hσ hT [m.b i] (fun k hk => by
      obtain rfl : k = m.b i := by simpa using hk
      exact .inl hfb) ⟨by simp, bm, H, es, l, hFb, hFH, hB, hm.move (hset _ (hnb _ hFb)) (hset _ (hnb _ hFH)), seen.push e.born, by
        show (w1.heap.setIfInBounds (m.b i) _)[m.b i]? = _
        rw [hh, Array.getElem?_setIfInBounds_self_of_lt hlt], rfl, fun x hx hs => by
          rw [contains_push, Bool.or_eq_true] at hs
          rcases hs with hs | hs
          · obtain ⟨q, hq, h2⟩ := g3 x hx hs
            exact ⟨q, List.mem_cons_of_mem _ hq, h2⟩
          · have : x = e := born_inj (by rw [hm.born]; exact List.nodup_range) hx he1 (by simpa using hs)
            subst this
            exact ⟨p, List.mem_cons_self, hk⟩, fun q r hq => by
          cases hq
          exact ⟨seen, e, rfl, he1, hk, hv⟩⟩
    exact hnext p _ m' _ _ _ hp (by have := left_shrinks _ _ _ he; rw [g2] at this; exact this) hG hH
end
/-! ### direct.find -/
abbrev Dir := Int × Int × Int × Int × Int × Int × Int × Int × Int × Int × Int × Int × Int
abbrev toDir : List TL := [.sc (.int .i64), .sc (.int .i64), .sc (.int .i64), .sc (.int .i64), .sc (.int .i64), .sc (.int .i64), .sc (.int .i64), .sc (.int .i64), .sc (.int .i64), .sc (.int .i64), .sc (.int .i64), .sc (.int .i64), .sc (.int .i64)]
abbrev lDir : List LK := [.sc (.int .i64), .sc (.int .i64), .sc (.int .i64), .sc (.int .i64), .sc (.int .i64), .sc (.int .i64), .sc (.int .i64), .sc (.int .i64), .sc (.int .i64), .sc (.int .i64), .sc (.int .i64), .sc (.int .i64), .sc (.int .i64)]
abbrev fTI : List (Nat × TK) := [(0, .one (.ro [.str])), (2, .box 27 toDir), (7, .obj 1)]
abbrev fTO : List (Nat × TK) := [(2, .box 27 toDir)]
abbrev fR : List PK := [.agg lDir, .one (.sc .bool)]
def opB : Int → List UInt8
  | 1 => [97]
  | 2 => [100]
  | _ => [99]
def kdB : Int → List UInt8
  | 1 => [99, 111, 110, 116, 97, 99, 116]
  | _ => [114, 97, 110, 103, 101]
def nOf : Int × Int → Int
  | (1, 1) => 6
  | (2, 1) => 1
  | (3, 1) => 2
  | (1, 2) => 5
  | (2, 2) => 3
  | _ => 4
/-- Do words begin as those of a directive of this kind? -/
def hit (l : List ByteArray) (p : Int × Int) : Bool := decide (2 < (l.length : Int)) && (((l.getD 0 ⟨#[]⟩).data.toList == opB p.1) && ((l.getD 1 ⟨#[]⟩).data.toList == kdB p.2))
def findL (_k : Nat) : (List ByteArray) × Dir × (Nat × List (Int × Int)) → Option (Dir ⊕ (Dir × Bool)) := fun (l, d, v) => match v.2 with
  | [] => match fKsG.find? (hit l) with
    | some p => some (.inr ((p.1, p.2, d.2.2), decide ((l.length : Int) = 2 + nOf p)))
    | none => some (.inl d)
  | _ => none
def direct_find (_k : Nat) : List ByteArray → Option (Dir × Bool) := fun l => match fKsG.find? (hit l) with
  | some p => some ((p.1, p.2, 0, 0, 0, 0, 0, 0, 0, 0, 0, 0, 0), decide ((l.length : Int) = 2 + nOf p))
  | none => some ((0, 0, 0, 0, 0, 0, 0, 0, 0, 0, 0, 0, 0), false)
noncomputable def find_c : Code := Tryd.f46.body.getD .skip
noncomputable def find_X : Cx Tryd.prog fR := ⟨fun _ => ⟨[], [], [hkFm, hkClo [fClo1, fClo2, fClo3, fClo4, fClo5, fClo6], hkRow Tryd.prog, hkStr Tryd.prog]⟩, Tryd.f46.ntmps, Tryd.f46.results, [some ⟨0, fTI, fTO, findL⟩]⟩
def sqA : Code → Code
  | .seq a _ => a
  | _ => .skip
def sqB : Code → Code
  | .seq _ b => b
  | _ => .skip
def opsOf : Code → Array Oper
  | .region _ ops _ => ops
  | _ => #[]
noncomputable def find_l : Code := lp find_c 0
noncomputable def find_ops : Array Oper := opsOf (sqA find_l)
noncomputable def fRound (S : AS) (n : Nat) : Option (TT fTI ⊕ TT fTO ⊕ PT fR) := regP (find_X.Φ 0) find_X.N find_ops (find_ops.toList.drop 1) S n (fun s n => exec find_X 0 (sqB find_l) 1 s n (fun e s _ => match e with
  | .nrm => match deZ s fTI with
    | some x => some (.inl x)
    | none => none
  | .ex id => bif Nat.beq id 0 then match deZ s fTO with
      | some y => some (.inr (.inl y))
      | none => none
    else none) (fun r => some (.inr (.inr r))))
def sNext (l : List ByteArray) (d : Dir) (n : Nat) (vis : List (Int × Int)) (n' : Nat) (p : Int × Int) : AS := (mkS fTI (l, d, (n, vis))).app (some 8) ⟨.tup [.v (.bool true), .un, .un], [(1, .obj 1 ((n', p :: vis) : Nat × List (Int × Int)) 3)]⟩
def cntP : Int × Int → List Nat
  | (1, 1) => [2, 3, 4, 5, 6, 7]
  | (2, 1) => [2]
  | (3, 1) => [2, 7]
  | (1, 2) => [8, 9, 10, 11, 12]
  | (2, 2) => [8, 9, 10]
  | _ => [8, 9, 10, 12]
def fTree (l : List ByteArray) (d : Dir) (n' : Nat) (vis : List (Int × Int)) (p : Int × Int) : Option (TT fTI ⊕ TT fTO ⊕ PT fR) :=
  bif decide (2 < (l.length : Int)) then bif decide (0 < (l.length : Int)) then bif (l.getD (0 : Int).toNat (⟨#[]⟩ : ByteArray)).data.toList == opB p.1 then bif decide (1 < (l.length : Int)) then bif (l.getD (1 : Int).toNat (⟨#[]⟩ : ByteArray)).data.toList == kdB p.2 then
    bif decide ((l.length : Int) = IntKind.i64.wrap (2 + ((cntP p).length : Int))) then some (.inr (.inr ((p.1, p.2, d.2.2), true))) else some (.inr (.inr ((p.1, p.2, d.2.2), false)))
    else some (.inl (l, d, n', p :: vis)) else none else some (.inl (l, d, n', p :: vis)) else none else some (.inl (l, d, n', p :: vis))
theorem round_eq (l : List ByteArray) (d : Dir) (n : Nat) (vis : List (Int × Int)) (n' : Nat) {p : Int × Int} (hp : p ∈ fKsG) : fRound (sNext l d n vis n' p) 11 = fTree l d n' vis p := by
  simp only [fKsG, List.mem_cons, List.not_mem_nil, or_false] at hp
  rcases hp with rfl | rfl | rfl | rfl | rfl | rfl <;> kernel_rfl
theorem end_eq (l : List ByteArray) (d : Dir) (n : Nat) (vis : List (Int × Int)) : fRound ((mkS fTI (l, d, (n, vis))).app (some 8) ⟨.tup [.v (.bool false)], []⟩) 11 = some (.inr (.inl d)) := by kernel_rfl
theorem tree_hit {l : List ByteArray} {d : Dir} {n' : Nat} {vis : List (Int × Int)} {p : Int × Int} (hp : p ∈ fKsG) (h : hit l p = true) : fTree l d n' vis p = some (.inr (.inr ((p.1, p.2, d.2.2), decide ((l.length : Int) = 2 + nOf p)))) := by
  simp only [hit, Bool.and_eq_true] at h
  obtain ⟨h1, h2, h3⟩ := h
  have h1' := of_decide_eq_true h1
  unfold fTree
  rw [h1, show decide (0 < (l.length : Int)) = true from decide_eq_true (by omega), show decide (1 < (l.length : Int)) = true from decide_eq_true (by omega), show (0 : Int).toNat = 0 from rfl, show (1 : Int).toNat = 1 from rfl, h2, h3]
  simp only [cond_true]
  have hw : IntKind.i64.wrap (2 + ((cntP p).length : Int)) = 2 + nOf p := by
    simp only [fKsG, List.mem_cons, List.not_mem_nil, or_false] at hp
    rcases hp with rfl | rfl | rfl | rfl | rfl | rfl <;> decide
  rw [hw]
  cases decide ((l.length : Int) = 2 + nOf p) <;> rfl
theorem tree_miss {l : List ByteArray} {d : Dir} {n' : Nat} {vis : List (Int × Int)} {p : Int × Int} (h : hit l p = false) : fTree l d n' vis p = some (.inl (l, d, n', p :: vis)) := by
  unfold fTree
  rw [show (0 : Int).toNat = 0 from rfl, show (1 : Int).toNat = 1 from rfl]
  unfold hit at h
  cases h1 : decide (2 < (l.length : Int)) with
  | false => rfl
  | true =>
    have h1' := of_decide_eq_true h1
    rw [show decide (0 < (l.length : Int)) = true from decide_eq_true (by omega), show decide (1 < (l.length : Int)) = true from decide_eq_true (by omega)]
    rw [h1, Bool.true_and] at h
    simp only [cond_true]
    cases h2 : (l.getD 0 (⟨#[]⟩ : ByteArray)).data.toList == opB p.1 with
    | false => rfl
    | true =>
      rw [h2, Bool.true_and] at h
      rw [h]
      rfl
theorem hit_inj {l : List ByteArray} {p q : Int × Int} (hp : p ∈ fKsG) (hq : q ∈ fKsG) (h1 : hit l p = true) (h2 : hit l q = true) : p = q := by
  simp only [hit, Bool.and_eq_true, beq_iff_eq] at h1 h2
  have e1 := h1.2.1.symm.trans h2.2.1
  have e2 := h1.2.2.symm.trans h2.2.2
  clear h1 h2
  simp only [fKsG, List.mem_cons, List.not_mem_nil, or_false] at hp hq
  rcases hp with rfl | rfl | rfl | rfl | rfl | rfl <;> rcases hq with rfl | rfl | rfl | rfl | rfl | rfl <;> first | rfl | (revert e1 e2; decide)
theorem find_hit {l : List ByteArray} {p : Int × Int} (hp : p ∈ fKsG) (h : hit l p = true) : fKsG.find? (hit l) = some p := by
  cases hq : fKsG.find? (hit l) with
  | none => exact absurd h (List.find?_eq_none.1 hq _ hp)
  | some q => rw [hit_inj (List.mem_of_find?_eq_some hq) hp (List.find?_some hq) h]
theorem find_loop (fn : Func) (hfn : find_X.rs = fn.results) (w0 : Org) (i : Nat) (an : LAn fR) (c' : Code) (h1 : getL find_X.L i = some an) (h2 : (loopsOf find_c)[i]? = some c') : LoopOk Tryd.prog fn w0 find_X.N an c' 0 := by
  have hi : i = 0 := by
    cases i with
    | zero => rfl
    | succ i => cases h1
  subst hi
  cases h1
  have hc : c' = find_l := by
    have : (loopsOf find_c)[0]? = some find_l := by kernel_rfl
    rw [this] at h2
    exact (Option.some.inj h2).symm
  subst hc
  rintro ⟨l, d, n, vis⟩ o m a w hF hr Q g1 g2
  obtain rfl : vis = [] := by
    cases vis with
    | nil => rfl
    | cons _ _ => simp [findL] at hF
  simp only [findL] at hF
  refine c_loop (n := n) (fun q a w => ∃ m vis, Rep w0 find_X.N m (mkS fTI (l, d, (q, vis))) a w ∧ ∀ p ∈ vis, hit l p = false) ⟨m, [], hr, fun p hp => by cases hp⟩ (fun q a w ⟨m, vis, hr, hv⟩ => ?_)
  have hseq : find_l = .seq (.region 2 find_ops false) (sqB find_l) := by kernel_rfl
  have hops : find_ops = (⟨some 8, .next (.tmp 7) false, 0, "direct.go:84", #[], none⟩ :: find_ops.toList.drop 1).toArray := by kernel_rfl
  have hN : ∀ g t, guardT find_ops g = some t → t < find_X.N := fun g t hg => by
    unfold guardT at hg
    split at hg
    · rename_i og ho
      have hall : find_ops.toList.all (fun o => dOk o.dst find_X.N) = true := by kernel_rfl
      have := List.all_eq_true.1 hall og (by rw [← Array.mem_def]; exact Array.mem_of_getElem? ho)
      rw [hg] at this
      exact Nat.le_of_ble_eq_true this
    · cases hg
  have hids : Ids (mkS fTI (l, d, (q, vis))) (mkN fTI (l, d, (q, vis))) := mkS_ids
  have hn3 : mkN fTI (l, d, (q, vis)) = 3 := by kernel_rfl
  rw [hn3] at hids
  have hdst : dOk (some 8) find_X.N = true := by kernel_rfl
  -- what runs behind the first operation
  have rest : ∀ {v : TT fTI ⊕ TT fTO ⊕ PT fR} {S1 : AS} {m1 : Nm} {a1 : Act} {w1 : World}, fRound S1 11 = some v → Rep w0 find_X.N m1 S1 a1 w1 → Ids S1 11 →
      (∀ x m' a' w', v = .inl x → Rep w0 find_X.N m' (mkS fTI x) a' w' → Exit.then (fun a' w' => ∃ m', m' < q ∧ ∃ m vis, Rep w0 find_X.N m (mkS fTI (l, d, (m', vis))) a' w' ∧ ∀ p ∈ vis, hit l p = false) Q .normal a' w') → (∀ y m' a' w', v = .inr (.inl y) → Rep w0 find_X.N m' (mkS fTO y) a' w' → Q (.exit 0) a' w') → (∀ r a' w', v = .inr (.inr r) → Ret Tryd.prog fn fR w0 r a' w' → Q .ret a' w') →
      wpList Tryd.prog find_ops (fun e a' w' => match e with | .normal => (sqB find_l).wp Tryd.prog (Exit.then (fun a' w' => ∃ m', m' < q ∧ ∃ m vis, Rep w0 find_X.N m (mkS fTI (l, d, (m', vis))) a' w' ∧ ∀ p ∈ vis, hit l p = false) Q) a' w' | e => Exit.then (fun a' w' => ∃ m', m' < q ∧ ∃ m vis, Rep w0 find_X.N m (mkS fTI (l, d, (m', vis))) a' w' ∧ ∀ p ∈ vis, hit l p = false) Q e a' w') (find_ops.toList.drop 1) a1 w1 := by
    intro v S1 m1 a1 w1 hv hr1 hi1 k1 k2 k3
    refine regP_ok hN hv hr1 hi1 (fun S' n' m' a' w' hk hr' hi' => ?_)
    refine exec_ok (all := []) hfn (fun i an c _ h => by simp at h) hk hr' hi' (fun j c' hj => by
      have : loopsOf (sqB find_l) = [] := by kernel_rfl
      rw [this] at hj; simp at hj) (fun e s' n' m' a' w' h3 h4 h5 => ?_) (fun x a' w' h3 h4 => ?_)
    · cases e with
      | nrm =>
        simp only at h3
        split at h3
        · rename_i x hx
          obtain ⟨m2, hr2⟩ := deZ_ok h4 hx
          exact k1 x m2 a' w' (Option.some.inj h3).symm hr2
        · cases h3
      | ex id =>
        simp only at h3
        rcases cond_some h3 with ⟨he, hk⟩ | ⟨_, h6⟩
        · have := Nat.eq_of_beq_eq_true he
          subst this
          split at hk
          · rename_i y hy
            obtain ⟨m2, hr2⟩ := deZ_ok h4 hy
            exact k2 y m2 a' w' (Option.some.inj hk).symm hr2
          · cases hk
        · cases h6
    · exact k3 x a' w' (Option.some.inj h3).symm h4
  rw [hseq]
  refine wp_seq ?_
  rw [hops]
  refine wp_region_lit ?_
  rw [← hops]
  refine wpList_step fun K hK => ?_
  simp only [Region.wanted, if_true]
  refine next_wp (id0 := 3) hr hids.fresh rfl (t := 7) (i := 1) (j := 2) (n := q) (vis := vis) (by kernel_rfl) (by kernel_rfl) (fun hall => hK _ _ ?_) (fun p n' m' w' x y hp hn hG hH => hK _ _ ?_)
  · have hnone : fKsG.find? (hit l) = none := List.find?_eq_none.2 fun p hp => by rw [hv p (hall p hp)]; simp
    rw [hnone] at hF
    have hr1 := hr.put (d := some 8) (E := ⟨.tup [.v (.bool false)], []⟩) (v := .tuple #[.bool false]) (p := fun _ => true) hdst (Grows.refl _ m w) (fun t => ids_all) (.tup (.cons .v .nil)) hr.heap
    refine rest (end_eq l d q vis) hr1 ((hids.app (d := some 8) (E := ⟨.tup [.v (.bool false)], []⟩) (n' := 11) (by omega) (by kernel_rfl))) (fun x m' a' w' hx => by cases hx) (fun y m' a' w' hy hr' => ?_) (fun r a' w' hx => by cases hx)
    cases hy
    exact g1 d m' a' w' (Option.some.inj hF).symm hr'
  · have hr1 := hr.put (d := some 8) (E := ⟨.tup [.v (.bool true), .un, .un], [(1, .obj 1 ((n', p :: vis) : Nat × List (Int × Int)) 3)]⟩) (v := .tuple #[.bool true, x, y]) hdst hG (fun t => ids_mono (fun k hk => blt_old hk) (hids.fr t)) (.tup (.cons .v (.cons .un (.cons .un .nil)))) hH
    have hi1 : Ids (sNext l d q vis n' p) 11 := hids.app (d := some 8) (E := ⟨.tup [.v (.bool true), .un, .un], [(1, .obj 1 ((n', p :: vis) : Nat × List (Int × Int)) 3)]⟩) (n' := 11) (by omega) (by kernel_rfl)
    have heq := round_eq l d q vis n' hp
    cases hh : hit l p with
    | true =>
      rw [find_hit hp hh] at hF
      refine rest (heq.trans (tree_hit hp hh)) hr1 hi1 (fun x m' a' w' hx => by cases hx) (fun y m' a' w' hy => by cases hy) (fun r a' w' hx hret => ?_)
      cases hx
      exact g2 _ a' w' (Option.some.inj hF).symm hret
    | false =>
      refine rest (heq.trans (tree_miss hh)) hr1 hi1 (fun x m' a' w' hx hr' => ?_) (fun y m' a' w' hy => by cases hy) (fun r a' w' hx => by cases hx)
      cases hx
      exact ⟨n', hn, m', p :: vis, hr', fun z hz => by
        rcases List.mem_cons.1 hz with rfl | hz
        · exact hh
        · exact hv z hz⟩
theorem direct_find_eq (k : Nat) (l : List ByteArray) : direct_find k l = runF find_X 0 find_c [.one (.row 9 [.str])] l := by
  have h : runF find_X 0 find_c [.one (.row 9 [.str])] l = (findL 0 (l, (0, 0, 0, 0, 0, 0, 0, 0, 0, 0, 0, 0, 0), (6, []))).bind fun o => match o with
      | .inl d => some (d, false)
      | .inr r => some r := by kernel_rfl
  rw [h]
  unfold direct_find findL
  cases hf : fKsG.find? (hit l) <;> simp only [hf] <;> rfl
noncomputable def direct_find_e (k : Nat) : Ent Tryd.prog := ⟨46, [.one (.row 9 [.str])], fR, direct_find k, calls_ofL (X := find_X) (k := 0) (c := find_c) Tryd.func46 (by kernel_rfl) (by kernel_rfl) (by kernel_rfl) (fun w0 i an c' h h' => find_loop _ (by kernel_rfl) w0 i an c' h h') (fun l => direct_find_eq k l), fun _ _ => by kernel_rfl⟩
end Go.Proofs.YtaknikdbnfmlfaaDoor.Ex
