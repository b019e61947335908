/- Part 6 of what the statements' rows lean on: the executor, the functions' trees, and what they come to in plain words. -/
import Derived.Test.YthlhbnaloefncaaGreatDoorU5
import Derived.Test.YthlhbnaloefncaaGreatDoorProg
namespace Go.Proofs.YthlhbnaloefncaaGreatDoor
set_option linter.unusedVariables false
set_option linter.unusedSimpArgs false
namespace Ex
open Go Go.RowKit
open Go.ChangeMaps (setBlock)
set_option maxRecDepth 100000
section
variable {P : Program} {w0 : Org} {w w' : World} {N : Nat} {S : AS} {o : Oper} {ρ : Type} {r : ρ} {id0 : Nat} {m : Nm}
theorem Heap.objMade (h : Heap w0 m S.σ w) (hf : Fresh id0 S) {n b : Nat} {x : OT n} (hb : Below w.heap.size w w') (gs : List Nat) (hgs : ∀ k ∈ gs, w.heap.size ≤ k ∧ k < w'.heap.size)
    (hO : OIs n x w0.heap.size b (fun k => k ∈ gs) (fun k => m.F k ∨ (w.heap.size ≤ k ∧ k < w'.heap.size ∧ k ∉ gs)) w') :
    ∃ m', Grows (old id0) m m' w w' ∧ Heap w0 m' (updσ S.σ [(id0, .obj n x (id0 + 1))]) w' ∧ m'.b id0 = b := by
  let m' : Nm := ⟨setAt m.v (id0 + 1) (tupV gs), setAt m.b id0 b, fun k => m.F k ∨ (w.heap.size ≤ k ∧ k < w'.heap.size ∧ k ∉ gs)⟩
  have hG : Grows (old id0) m m' w w' := ⟨fun q hq => setAt_ne (old_ne (k := 1) (by decide) hq), fun q hq => setAt_ne (old_ne (k := 0) (by decide) hq), fun k hk => ⟨.inl hk, hb.block k (h.flt k hk)⟩⟩
  have hbs : w0.heap.size ≤ w.heap.size := h.below.size
  have e : fpV (m'.v (id0 + 1)) = fun k => k ∈ gs := by
    show fpV (setAt m.v (id0 + 1) (tupV gs) (id0 + 1)) = _
    rw [setAt_self, fpV_tupV]
  refine ⟨m', hG, Heap.step (fun q => q = id0) h hG hf.σ (fun q hq => ⟨by rw [updσ_one, if_neg hq], hf.p q⟩) (fun q k hq hk => ⟨hb.block k (blk_lt h hk).1, fun hF => ?_⟩) (fun q hq => ?_) (fun q l k hql hq h1 h2 => ?_) (fun k hk => ?_) (h.below.trans (hb.mono hbs)), setAt_self _ _ _⟩
  · rcases hF with hF | ⟨h1, _⟩
    · exact (blk_lt h hk).2.1 hF
    · have := (blk_lt h hk).1; omega
  · subst hq
    rw [updσ_one, if_pos rfl]
    refine ⟨fun k hk => ?_, by rw [e, show m'.b q = b from setAt_self _ _ _]; exact hO⟩
    rw [e] at hk
    obtain ⟨h1, h2⟩ := hgs k hk
    exact ⟨by omega, h2, fun hF => hF.elim (fun h3 => by have := h.flt _ h3; omega) (fun h3 => h3.2.2 hk)⟩
  · subst hq
    rw [updσ_one, if_pos rfl] at h1
    rw [updσ_one, if_neg (Ne.symm hql), blkOf.same hG (hf.σ l) (hf.p l)] at h2
    have h1' : fpV (m'.v (q + 1)) k := h1
    rw [e] at h1'
    have := (hgs k h1').1
    have := (blk_lt h h2).1
    omega
  · rcases hk with hk | ⟨_, h2, _⟩
    · exact Nat.lt_of_lt_of_le (h.flt k hk) hb.size
    · exact h2
theorem ev_mp {m : Nm} {a : Act} {x : Operand} {i : Nat} (hr : Rep w0 N m S a w) (h : S.ev x = .mp i) : a.eval x = .map (some (m.b i)) := by
  have h1 := hr.ev x
  rw [h] at h1
  generalize a.eval x = z at h1
  cases h1
  rfl
theorem ev_ptr {m : Nm} {a : Act} {x : Operand} {i off : Nat} (hr : Rep w0 N m S a w) (h : S.ev x = .ptr i off) : a.eval x = .pointer (some ⟨m.b i, off, none⟩) := by
  have h1 := hr.ev x
  rw [h] at h1
  generalize a.eval x = z at h1
  cases h1
  rfl
theorem le_σ {S' : AS} (hl : Le S S') {i : Nat} {b : ABlk} (h : S.σ i = b) (hn : b ≠ .no) : S'.σ i = b := by
  rcases hl.σ i with h1 | h1
  · exact absurd (h.symm.trans h1) hn
  · rw [h1, h]
end
section
variable {w0 : Org} {w : World} {N : Nat} {S : AS} {o : Oper} {ρ : Type} {r : ρ} {id0 : Nat}
def lkP : Int × Int → PV
  | (1, 1) => .agg [.v (.string ⟨#[97]⟩), .v (.string ⟨#[99, 111, 110, 116, 97, 99, 116]⟩), .fn 165 []]
  | (2, 1) => .agg [.v (.string ⟨#[100]⟩), .v (.string ⟨#[99, 111, 110, 116, 97, 99, 116]⟩), .fn 163 []]
  | (3, 1) => .agg [.v (.string ⟨#[99]⟩), .v (.string ⟨#[99, 111, 110, 116, 97, 99, 116]⟩), .fn 164 []]
  | (1, 2) => .agg [.v (.string ⟨#[97]⟩), .v (.string ⟨#[114, 97, 110, 103, 101]⟩), .fn 168 [.rptr true [.fnc 166] () 0]]
  | (2, 2) => .agg [.v (.string ⟨#[100]⟩), .v (.string ⟨#[114, 97, 110, 103, 101]⟩), .fn 166 []]
  | (3, 2) => .agg [.v (.string ⟨#[99]⟩), .v (.string ⟨#[114, 97, 110, 103, 101]⟩), .fn 167 [.rptr true [.fnc 166] () 0]]
  | _ => .un
theorem lkP_ok {m : Nm} {B0 H : Nat} {p : Int × Int} (hp : p ∈ fKsG) (hF : m.F H) (hB : B0 ≤ H) (hb : w.heap[H]? = some (.cells #[fnG 166] 127 (0, 0))) : RepV m B0 w (lkP p) (lkG H p) := by
  have hbox : RepV m B0 w (.rptr true [.fnc 166] () 0) (.pointer (some ⟨H, 0, none⟩)) := by
    refine .rptr (b := H) (o := 0) ?_
    simp only [SKIs]
    exact ⟨H, 0, [fnG 166], rfl, ⟨hF, fun _ => hB⟩, rfl, CellsAt.of_block hb, by simp only [TupIs, SKIs]; exact ⟨_, rfl, rfl⟩⟩
  have look : ∀ (s1 s2 : ByteArray) (f : FuncId) (caps : List PV) (cv : List Value), RepVs m B0 w caps cv → RepV m B0 w (.agg [.v (.string s1), .v (.string s2), .fn f caps]) (.agg #[.string s1, .string s2, .func (.func f) #[] cv.toArray]) := fun s1 s2 f caps cv h => .agg (.cons .v (.cons .v (.cons (.fn h) .nil)))
  simp only [fKsG, List.mem_cons, List.not_mem_nil, or_false] at hp
  rcases hp with rfl | rfl | rfl | rfl | rfl | rfl
  · exact look _ _ _ _ _ .nil
  · exact look _ _ _ _ _ .nil
  · exact look _ _ _ _ _ .nil
  · exact look _ _ _ _ _ (.cons hbox .nil)
  · exact look _ _ _ _ _ .nil
  · exact look _ _ _ _ _ (.cons hbox .nil)
def fmOn (S : AS) (o : Oper) : Bool := match o.op with
  | .call ⟨.value x, _, _⟩ => match S.ev x with
    | .fn f _ => Nat.beq f 107
    | _ => false
  | .range _ _ => true
  | .entry _ => true
  | _ => false
def fmRun (S : AS) (id0 : Nat) (o : Oper) (κ : Eff → Option ρ) : Option ρ := match o.op with
  | .call ⟨.value x, args, _⟩ => match S.ev x, args.toList with
    | .fn f [], [] => bif Nat.beq f 107 then κ ⟨.mp id0, [(id0, .obj 2 () (id0 + 1))]⟩ else none
    | _, _ => none
  | .range t x => bif Nat.beq t 130 then match S.ev x with
    | .mp i => match S.σ i with
      | .obj n _ _ => bif Nat.beq n 2 then κ ⟨.ptr id0 0, [(id0, .obj 1 ((6, []) : Nat × List (Int × Int)) (id0 + 1))]⟩ else none
      | _ => none
    | _ => none
    else none
  | .entry x => match S.ev x with
    | .ptr i off => match S.σ i with
      | .obj n y _ => bif Nat.beq off 0 then match asObj n 1 y with
          | some (_, p :: _) => κ ⟨.tup [.agg [.v (.int .i64 p.1), .v (.int .i64 p.2)], lkP p], []⟩
          | _ => none
        else none
      | _ => none
    | _ => none
  | _ => none
theorem FMap.key {w : World} {b H : Nat} {es : Array MapEntry} {l : List (Int × Int)} (h : FMap w b H es l) {e : MapEntry} (he : e ∈ es.toList) : ∃ p ∈ fKsG, e.key = kyG p ∧ e.val = lkG H p := by
  have : (e.key, e.val) ∈ es.toList.map fun e => (e.key, e.val) := List.mem_map.2 ⟨e, he, rfl⟩
  rw [h.kv] at this
  obtain ⟨p, hp, e2⟩ := List.mem_map.1 this
  exact ⟨p, (h.mem p).1 hp, (congrArg Prod.fst e2).symm, (congrArg Prod.snd e2).symm⟩
theorem FMap.len {w : World} {b H : Nat} {es : Array MapEntry} {l : List (Int × Int)} (h : FMap w b H es l) : es.size = 6 := by
  have h1 : l.length = fKsG.length := ((List.perm_ext_iff_of_nodup h.nd (by decide)).2 h.mem).length_eq
  have h2 := congrArg List.length h.born
  simp at h2
  rw [h2, h1]; rfl
theorem FMap.lt {w : World} {b H : Nat} {es : Array MapEntry} {l : List (Int × Int)} (h : FMap w b H es l) : ∀ x ∈ es.toList, x.born < l.length := fun x hx => by
  have : x.born ∈ es.toList.map (·.born) := List.mem_map.2 ⟨x, hx, rfl⟩
  rw [h.born] at this
  exact List.mem_range.1 this
theorem left0 (es : Array MapEntry) : leftOf es #[] = es := by
  unfold leftOf
  exact Array.filter_eq_self.2 fun a _ => by simp
theorem kyG_inj {p q : Int × Int} (h : kyG p = kyG q) : p = q := by
  unfold kyG at h
  simp at h
  exact Prod.ext h.1 h.2
theorem fm_ok {κ : Eff → Option ρ} (h : fmRun S id0 o κ = some r) : Sound Tryz.prog w0 N S id0 o κ r := by
  unfold fmRun at h
  split at h
  · rename_i x args ts ho
    split at h
    · rename_i f hx hargs
      have hl : args = #[] := by apply Array.ext'; simpa using hargs
      subst hl
      rcases cond_some h with ⟨hf, hh⟩ | ⟨_, h2⟩
      · have := Nat.eq_of_beq_eq_true hf
        subst this
        refine ⟨_, hh, ?_⟩
        intro S' m a w hl hf hr K Q hK
        have hr0 := hr.le hl
        have hrun := run_call (P := Tryz.prog) (w := w) ho (ev_fn hr0 hx) (fun _ _ => by kernel_rfl)
        unfold Oper.wp
        rw [hrun, Oper.upon_enter]
        have hav : (#[] : Array Operand).map a.eval = #[] := by simp
        rw [hav]
        refine (forms_calls w hr.gk).mono fun e w' hh => ?_
        obtain ⟨H, b, es, c, l, ⟨hbn, rfl⟩, rfl, h1, h2, h3, h4, h5, h6, h7, h8⟩ := hh
        have hbl : b < w'.heap.size := (Array.getElem?_eq_some_iff.1 h4).1
        obtain ⟨m', hG, hH, hb⟩ := Heap.objMade (n := 2) (x := ()) (b := b) hr.heap hf h8 [] (fun k hk => by cases hk) ⟨H, es, l, .inr ⟨by omega, hbl, by simp⟩, .inr ⟨h1, by omega, by simp⟩, Nat.le_trans hr.heap.below.size h1, h3, h4, hbn, h5, h6, fun p => (h7 p).trans (fIns_mem p)⟩
        exact hK m' w' _ hG hH (hb ▸ .mp)
      · cases h2
    · cases h
  · rename_i t x ho
    rcases cond_some h with ⟨ht, g⟩ | ⟨_, h2⟩
    · have := Nat.eq_of_beq_eq_true ht
      subst this
      clear h
      split at g
      · rename_i i hx
        split at g
        · rename_i n y j hσ
          rcases cond_some g with ⟨hn, hh⟩ | ⟨_, h2⟩
          · have := Nat.eq_of_beq_eq_true hn
            subst this
            refine ⟨_, hh, ?_⟩
            intro S' m a w hl hf hr K Q hK
            have hr0 := hr.le hl
            have hσ' := le_σ hl hσ (by simp)
            have hb := hr.heap.blk i
            rw [hσ'] at hb
            obtain ⟨b1, H, es, l, hFb, hFH, hB, hm⟩ := hb
            have hrun : (execOp a.eval o).run Tryz.prog w = .ok (.value (.pointer (some ⟨w.heap.size, 0, none⟩))) (w.alloc (.mapIter (some (m.b i)) l.length #[] l.length)) := by
              refine run_of_w (s := Instr.range 130 (a.eval x)) (by unfold execOp; simp only [ho]) ?_
              rw [ev_mp hr0 hx]
              exact run_range_map w _ _ _ (m.b i) es l.length Tryz.underlying130 hm.mp
            unfold Oper.wp
            rw [hrun, Oper.upon_value]
            have hold : ∀ k, k < w.heap.size → (w.alloc (.mapIter (some (m.b i)) l.length #[] l.length)).heap[k]? = w.heap[k]? := fun k hk => Below.heap_alloc w _ k hk
            have hsz : (w.alloc (.mapIter (some (m.b i)) l.length #[] l.length)).heap.size = w.heap.size + 1 := by show (w.heap.push _).size = _; rw [Array.size_push]
            obtain ⟨m', hG, hH, hb⟩ := Heap.objMade (n := 1) (x := ((6, []) : Nat × List (Int × Int))) (b := w.heap.size) hr.heap hf ((Below.refl _ _).alloc (Nat.le_refl _) _) [w.heap.size] (fun k hk => by
              obtain rfl : k = w.heap.size := by simpa using hk
              exact ⟨Nat.le_refl _, by omega⟩) ⟨by simp, m.b i, H, es, l, .inl hFb, .inl hFH, hB, hm.move (hold _ (hr.heap.flt _ hFb)) (hold _ (hr.heap.flt _ hFH)), #[], by show (w.heap.push _)[w.heap.size]? = _; exact Array.getElem?_push_size, by rw [left0, hm.len], fun e he hs => by simp at hs, fun p r hp => by cases hp⟩
            exact hK m' _ _ hG hH (hb ▸ .ptr)
          · cases h2
        · cases g
      · cases g
    · cases h2
  · rename_i x ho
    split at h
    · rename_i i off hx
      split at h
      · rename_i n y j hσ
        rcases cond_some h with ⟨h0, g⟩ | ⟨_, h2⟩
        · have := Nat.eq_of_beq_eq_true h0
          subst this
          clear h
          split at g
          · rename_i q p vis hy
            obtain ⟨rfl, rfl⟩ := asObj_some hy
            refine SoundV.sound (κ := κ) ⟨_, g, fun m a w hr => ?_⟩
            have hb := hr.heap.blk i
            rw [hσ] at hb
            obtain ⟨b1, hfb, bm, H, es, l, hFb, hFH, hB, hm, seen, g1, g2, g3, g4⟩ := hb
            obtain ⟨seen', e, rfl, he, hk, hv⟩ := g4 p vis rfl
            refine ⟨.tuple #[e.key, e.val], run_of (s := Instr.entry (a.eval x)) (by unfold execOp; simp only [ho]) ?_, ?_⟩
            · rw [ev_ptr hr hx]
              exact run_entry_at w (m.b i) bm l.length seen' es l.length e g1 hm.mp he (by rw [hm.born]; exact List.nodup_range)
            · have hp : p ∈ fKsG := by
                obtain ⟨p', hp', hk', _⟩ := hm.key he
                rwa [kyG_inj (hk.symm.trans hk')]
              rw [hk, hv]
              exact .tup (.cons (.agg (.cons .v (.cons .v .nil))) (.cons (lkP_ok hp hFH hB hm.box) .nil))
          · cases g
        · cases h2
      · cases h
    · cases h
  · cases h
def hkFm : Hook Tryz.prog := ⟨fmOn, fun S id0 o κ => fmRun S id0 o κ, fun _ h => fm_ok h⟩
theorem next_wp {m : Nm} {a : Act} {i j n t : Nat} {vis : List (Int × Int)} {K : Act → World → Prop} {Q : Exit → Act → World → Prop} (hr : Rep w0 N m S a w) (hf : Fresh id0 S) (ho : o.op = .next (.tmp t) false) (ht : S.fr t = .ptr i 0) (hσ : S.σ i = .obj 1 ((n, vis) : Nat × List (Int × Int)) j)
    (hend : (∀ p ∈ fKsG, p ∈ vis) → K (a.put o.dst (.tuple #[.bool false])) w)
    (hnext : ∀ (p : Int × Int) (n' : Nat) m' w' x y, p ∈ fKsG → n' < n → Grows (old id0) m m' w w' → Heap w0 m' (updσ S.σ [(i, .obj 1 ((n', p :: vis) : Nat × List (Int × Int)) id0)]) w' → K (a.put o.dst (.tuple #[.bool true, x, y])) w') : o.wp Tryz.prog a w K Q := by
  have hb := hr.heap.blk i
  rw [hσ] at hb
  obtain ⟨b1, hfb, bm, H, es, l, hFb, hFH, hB, hm, seen, g1, g2, g3, g4⟩ := hb
  have hev : a.eval (.tmp t) = .pointer (some ⟨m.b i, 0, none⟩) := ev_ptr hr ht
  rcases run_next_at (P := Tryz.prog) w o.type (m.b i) bm l.length l.length seen es l.length g1 hm.mp hm.lt (Nat.le_refl _) with ⟨hz, hrun⟩ | ⟨e, he, w1, hw1, hrun⟩
  · have hex : (execOp a.eval o).run Tryz.prog w = .ok (.value (.tuple #[.bool false])) w := run_of (s := Instr.next (a.eval (.tmp t)) false o.type) (by unfold execOp; simp only [ho]) (by rw [hev]; exact hrun)
    unfold Oper.wp
    rw [hex, Oper.upon_value]
    refine hend fun p hp => ?_
    have hl := (hm.mem p).2 hp
    have h1 : (kyG p, lkG H p) ∈ es.toList.map fun e => (e.key, e.val) := by rw [hm.kv]; exact List.mem_map.2 ⟨p, hl, rfl⟩
    obtain ⟨e, he, hek⟩ := List.mem_map.1 h1
    obtain ⟨q, hq, hkq⟩ := g3 e he (all_seen _ _ hz e he)
    have := kyG_inj (hkq.symm.trans (congrArg Prod.fst hek))
    rwa [← this]
  · obtain ⟨he1, he2⟩ := mem_left he
    obtain ⟨p, hp, hk, hv⟩ := hm.key he1
    have hex : (execOp a.eval o).run Tryz.prog w = .ok (.value (.tuple #[.bool true, e.key, e.val])) (setBlock w1 (m.b i) (.mapIter (some bm) l.length (seen.push e.born) l.length)) := run_of_w (s := Instr.next (a.eval (.tmp t)) false o.type) (by unfold execOp; simp only [ho]) (by rw [hev]; exact hrun)
    unfold Oper.wp
    rw [hex, Oper.upon_value]
    have hh : w1.heap = w.heap := by rcases hw1 with rfl | rfl <;> rfl
    have hlt : m.b i < w.heap.size := (Array.getElem?_eq_some_iff.1 g1).1
    have hset : ∀ k, k ≠ m.b i → (setBlock w1 (m.b i) (.mapIter (some bm) l.length (seen.push e.born) l.length)).heap[k]? = w.heap[k]? := fun k hk => by
      show (w1.heap.setIfInBounds (m.b i) _)[k]? = _
      rw [Array.getElem?_setIfInBounds_ne (Ne.symm hk), hh]
    have hT : Turned (fpV (m.v j)) w (setBlock w1 (m.b i) (.mapIter (some bm) l.length (seen.push e.born) l.length)) := by
      refine ⟨by rcases hw1 with rfl | rfl <;> rfl, by rcases hw1 with rfl | rfl <;> rfl, by rcases hw1 with rfl | rfl <;> rfl, ?_, fun k hk hf => hset k (fun e => hf (e ▸ hfb))⟩
      show _ ≤ (w1.heap.setIfInBounds _ _).size
      rw [Array.size_setIfInBounds, hh]
      exact Nat.le_refl _
    have hnb : ∀ k, m.F k → k ≠ m.b i := fun k hk e => (b1 (m.b i) hfb).2.2 (e ▸ hk)
    obtain ⟨m', hG, hH⟩ := Heap.objStep (n := 1) (x := ((n, vis) : Nat × List (Int × Int))) (x' := (((leftOf es (seen.push e.born)).size, p :: vis) : Nat × List (Int × Int))) hr.heap hf hσ hT [m.b i] (fun k hk => by
      obtain rfl : k = m.b i := by simpa using hk
      exact .inl hfb) ⟨by simp, bm, H, es, l, hFb, hFH, hB, hm.move (hset _ (hnb _ hFb)) (hset _ (hnb _ hFH)), seen.push e.born, by
        show (w1.heap.setIfInBounds (m.b i) _)[m.b i]? = _
        rw [hh, Array.getElem?_setIfInBounds_self_of_lt hlt], rfl, fun x hx hs => by
          rw [contains_push, Bool.or_eq_true] at hs
          rcases hs with hs | hs
          · obtain ⟨q, hq, h2⟩ := g3 x hx hs
            exact ⟨q, List.mem_cons_of_mem _ hq, h2⟩
          · have : x = e := born_inj (by rw [hm.born]; exact List.nodup_range) hx he1 (by simpa using hs)
            subst this
            exact ⟨p, List.mem_cons_self, hk⟩, fun q r hq => by
          cases hq
          exact ⟨seen, e, rfl, he1, hk, hv⟩⟩
    exact hnext p _ m' _ _ _ hp (by have := left_shrinks _ _ _ he; rw [g2] at this; exact this) hG hH
end
abbrev Dir := Int × Int × Int × Int × Int × Int × Int × Int × Int × Int × Int × Int × Int
abbrev toDir : List TL := [.sc (.int .i64), .sc (.int .i64), .sc (.int .i64), .sc (.int .i64), .sc (.int .i64), .sc (.int .i64), .sc (.int .i64), .sc (.int .i64), .sc (.int .i64), .sc (.int .i64), .sc (.int .i64), .sc (.int .i64), .sc (.int .i64)]
abbrev lDir : List LK := [.sc (.int .i64), .sc (.int .i64), .sc (.int .i64), .sc (.int .i64), .sc (.int .i64), .sc (.int .i64), .sc (.int .i64), .sc (.int .i64), .sc (.int .i64), .sc (.int .i64), .sc (.int .i64), .sc (.int .i64), .sc (.int .i64)]
abbrev fTI : List (Nat × TK) := [(0, .one (.ro [.str])), (2, .box 38 toDir), (7, .obj 1)]
abbrev fTO : List (Nat × TK) := [(2, .box 38 toDir)]
abbrev fR : List PK := [.agg lDir, .one (.sc .bool)]
def opB : Int → List UInt8
  | 1 => [97]
  | 2 => [100]
  | _ => [99]
def kdB : Int → List UInt8
  | 1 => [99, 111, 110, 116, 97, 99, 116]
  | _ => [114, 97, 110, 103, 101]
def nOf : Int × Int → Int
  | (1, 1) => 6
  | (2, 1) => 1
  | (3, 1) => 2
  | (1, 2) => 5
  | (2, 2) => 3
  | _ => 4
def hit (l : List ByteArray) (p : Int × Int) : Bool := decide (2 < (l.length : Int)) && (((l.getD 0 ⟨#[]⟩).data.toList == opB p.1) && ((l.getD 1 ⟨#[]⟩).data.toList == kdB p.2))
def findL (_k : Nat) : (List ByteArray) × Dir × (Nat × List (Int × Int)) → Option (Dir ⊕ (Dir × Bool)) := fun (l, d, v) => match v.2 with
  | [] => match fKsG.find? (hit l) with
    | some p => some (.inr ((p.1, p.2, d.2.2), decide ((l.length : Int) = 2 + nOf p)))
    | none => some (.inl d)
  | _ => none
def direct_find (_k : Nat) : List ByteArray → Option (Dir × Bool) := fun l => match fKsG.find? (hit l) with
  | some p => some ((p.1, p.2, 0, 0, 0, 0, 0, 0, 0, 0, 0, 0, 0), decide ((l.length : Int) = 2 + nOf p))
  | none => some ((0, 0, 0, 0, 0, 0, 0, 0, 0, 0, 0, 0, 0), false)
noncomputable def find_c : Code := Tryz.f106.body.getD .skip
noncomputable def find_X : Cx Tryz.prog fR := ⟨fun _ => ⟨[], [], [hkFm, hkClo [fClo1, fClo2, fClo3, fClo4, fClo5, fClo6], hkRow Tryz.prog, hkStr Tryz.prog]⟩, Tryz.f106.ntmps, Tryz.f106.results, [some ⟨0, fTI, fTO, findL⟩]⟩
def sqA : Code → Code
  | .seq a _ => a
  | _ => .skip
def sqB : Code → Code
  | .seq _ b => b
  | _ => .skip
def opsOf : Code → Array Oper
  | .region _ ops _ => ops
  | _ => #[]
noncomputable def find_l : Code := lp find_c 0
noncomputable def find_ops : Array Oper := opsOf (sqA find_l)
noncomputable def fRound (S : AS) (n : Nat) : Option (TT fTI ⊕ TT fTO ⊕ PT fR) := regP (find_X.Φ 0) find_X.N find_ops (find_ops.toList.drop 1) S n (fun s n => exec find_X 0 (sqB find_l) 1 s n (fun e s _ => match e with
  | .nrm => match deZ s fTI with
    | some x => some (.inl x)
    | none => none
  | .ex id => bif Nat.beq id 0 then match deZ s fTO with
      | some y => some (.inr (.inl y))
      | none => none
    else none) (fun r => some (.inr (.inr r))))
def sNext (l : List ByteArray) (d : Dir) (n : Nat) (vis : List (Int × Int)) (n' : Nat) (p : Int × Int) : AS := (mkS fTI (l, d, (n, vis))).app (some 8) ⟨.tup [.v (.bool true), .un, .un], [(1, .obj 1 ((n', p :: vis) : Nat × List (Int × Int)) 3)]⟩
def cntP : Int × Int → List Nat
  | (1, 1) => [2, 3, 4, 5, 6, 7]
  | (2, 1) => [2]
  | (3, 1) => [2, 7]
  | (1, 2) => [8, 9, 10, 11, 12]
  | (2, 2) => [8, 9, 10]
  | _ => [8, 9, 10, 12]
def fTree (l : List ByteArray) (d : Dir) (n' : Nat) (vis : List (Int × Int)) (p : Int × Int) : Option (TT fTI ⊕ TT fTO ⊕ PT fR) :=
  bif decide (2 < (l.length : Int)) then bif decide (0 < (l.length : Int)) then bif (l.getD (0 : Int).toNat (⟨#[]⟩ : ByteArray)).data.toList == opB p.1 then bif decide (1 < (l.length : Int)) then bif (l.getD (1 : Int).toNat (⟨#[]⟩ : ByteArray)).data.toList == kdB p.2 then
    bif decide ((l.length : Int) = IntKind.i64.wrap (2 + ((cntP p).length : Int))) then some (.inr (.inr ((p.1, p.2, d.2.2), true))) else some (.inr (.inr ((p.1, p.2, d.2.2), false)))
    else some (.inl (l, d, n', p :: vis)) else none else some (.inl (l, d, n', p :: vis)) else none else some (.inl (l, d, n', p :: vis))
theorem round_eq (l : List ByteArray) (d : Dir) (n : Nat) (vis : List (Int × Int)) (n' : Nat) {p : Int × Int} (hp : p ∈ fKsG) : fRound (sNext l d n vis n' p) 11 = fTree l d n' vis p := by
  simp only [fKsG, List.mem_cons, List.not_mem_nil, or_false] at hp
  rcases hp with rfl | rfl | rfl | rfl | rfl | rfl <;> kernel_rfl
theorem end_eq (l : List ByteArray) (d : Dir) (n : Nat) (vis : List (Int × Int)) : fRound ((mkS fTI (l, d, (n, vis))).app (some 8) ⟨.tup [.v (.bool false)], []⟩) 11 = some (.inr (.inl d)) := by kernel_rfl
theorem tree_hit {l : List ByteArray} {d : Dir} {n' : Nat} {vis : List (Int × Int)} {p : Int × Int} (hp : p ∈ fKsG) (h : hit l p = true) : fTree l d n' vis p = some (.inr (.inr ((p.1, p.2, d.2.2), decide ((l.length : Int) = 2 + nOf p)))) := by
  simp only [hit, Bool.and_eq_true] at h
  obtain ⟨h1, h2, h3⟩ := h
  have h1' := of_decide_eq_true h1
  unfold fTree
  rw [h1, show decide (0 < (l.length : Int)) = true from dcT (by omega), show decide (1 < (l.length : Int)) = true from dcT (by omega), show (0 : Int).toNat = 0 from rfl, show (1 : Int).toNat = 1 from rfl, h2, h3]
  simp only [cond_true]
  have hw : IntKind.i64.wrap (2 + ((cntP p).length : Int)) = 2 + nOf p := by
    simp only [fKsG, List.mem_cons, List.not_mem_nil, or_false] at hp
    rcases hp with rfl | rfl | rfl | rfl | rfl | rfl <;> decide
  rw [hw]
  cases decide ((l.length : Int) = 2 + nOf p) <;> rfl
theorem tree_miss {l : List ByteArray} {d : Dir} {n' : Nat} {vis : List (Int × Int)} {p : Int × Int} (h : hit l p = false) : fTree l d n' vis p = some (.inl (l, d, n', p :: vis)) := by
  unfold fTree
  rw [show (0 : Int).toNat = 0 from rfl, show (1 : Int).toNat = 1 from rfl]
  unfold hit at h
  cases h1 : decide (2 < (l.length : Int)) with
  | false => rfl
  | true =>
    have h1' := of_decide_eq_true h1
    rw [show decide (0 < (l.length : Int)) = true from dcT (by omega), show decide (1 < (l.length : Int)) = true from dcT (by omega)]
    rw [h1, Bool.true_and] at h
    simp only [cond_true]
    cases h2 : (l.getD 0 (⟨#[]⟩ : ByteArray)).data.toList == opB p.1 with
    | false => rfl
    | true =>
      rw [h2, Bool.true_and] at h
      rw [h]
      rfl
theorem hit_inj {l : List ByteArray} {p q : Int × Int} (hp : p ∈ fKsG) (hq : q ∈ fKsG) (h1 : hit l p = true) (h2 : hit l q = true) : p = q := by
  simp only [hit, Bool.and_eq_true, beq_iff_eq] at h1 h2
  have e1 := h1.2.1.symm.trans h2.2.1
  have e2 := h1.2.2.symm.trans h2.2.2
  clear h1 h2
  simp only [fKsG, List.mem_cons, List.not_mem_nil, or_false] at hp hq
  rcases hp with rfl | rfl | rfl | rfl | rfl | rfl <;> rcases hq with rfl | rfl | rfl | rfl | rfl | rfl <;> first | rfl | (revert e1 e2; decide)
theorem find_hit {l : List ByteArray} {p : Int × Int} (hp : p ∈ fKsG) (h : hit l p = true) : fKsG.find? (hit l) = some p := by
  cases hq : fKsG.find? (hit l) with
  | none => exact absurd h (List.find?_eq_none.1 hq _ hp)
  | some q => rw [hit_inj (List.mem_of_find?_eq_some hq) hp (List.find?_some hq) h]
theorem find_loop (fn : Func) (hfn : find_X.rs = fn.results) (w0 : Org) (i : Nat) (an : LAn fR) (c' : Code) (h1 : getL find_X.L i = some an) (h2 : (loopsOf find_c)[i]? = some c') : LoopOk Tryz.prog fn w0 find_X.N an c' 0 := by
  have hi : i = 0 := by
    cases i with
    | zero => rfl
    | succ i => cases h1
  subst hi
  cases h1
  have hc : c' = find_l := by
    have : (loopsOf find_c)[0]? = some find_l := by kernel_rfl
    rw [this] at h2
    exact (Option.some.inj h2).symm
  subst hc
  rintro ⟨l, d, n, vis⟩ o m a w hF hr Q g1 g2
  obtain rfl : vis = [] := by
    cases vis with
    | nil => rfl
    | cons _ _ => simp [findL] at hF
  simp only [findL] at hF
  refine c_loop (n := n) (fun q a w => ∃ m vis, Rep w0 find_X.N m (mkS fTI (l, d, (q, vis))) a w ∧ ∀ p ∈ vis, hit l p = false) ⟨m, [], hr, fun p hp => by cases hp⟩ (fun q a w ⟨m, vis, hr, hv⟩ => ?_)
  have hseq : find_l = .seq (.region 2 find_ops false) (sqB find_l) := by kernel_rfl
  have hops : find_ops = (⟨some 8, .next (.tmp 7) false, 0, "direct.go:84", #[], none⟩ :: find_ops.toList.drop 1).toArray := by kernel_rfl
  have hN : ∀ g t, guardT find_ops g = some t → t < find_X.N := fun g t hg => by
    unfold guardT at hg
    split at hg
    · rename_i og ho
      have hall : find_ops.toList.all (fun o => dOk o.dst find_X.N) = true := by kernel_rfl
      have := List.all_eq_true.1 hall og (by rw [← Array.mem_def]; exact Array.mem_of_getElem? ho)
      rw [hg] at this
      exact Nat.le_of_ble_eq_true this
    · cases hg
  have hids : Ids (mkS fTI (l, d, (q, vis))) (mkN fTI (l, d, (q, vis))) := mkS_ids
  have hn3 : mkN fTI (l, d, (q, vis)) = 3 := by kernel_rfl
  rw [hn3] at hids
  have hdst : dOk (some 8) find_X.N = true := by kernel_rfl
  -- what runs behind the first operation
  have rest : ∀ {v : TT fTI ⊕ TT fTO ⊕ PT fR} {S1 : AS} {m1 : Nm} {a1 : Act} {w1 : World}, fRound S1 11 = some v → Rep w0 find_X.N m1 S1 a1 w1 → Ids S1 11 →
      (∀ x m' a' w', v = .inl x → Rep w0 find_X.N m' (mkS fTI x) a' w' → Exit.then (fun a' w' => ∃ m', m' < q ∧ ∃ m vis, Rep w0 find_X.N m (mkS fTI (l, d, (m', vis))) a' w' ∧ ∀ p ∈ vis, hit l p = false) Q .normal a' w') → (∀ y m' a' w', v = .inr (.inl y) → Rep w0 find_X.N m' (mkS fTO y) a' w' → Q (.exit 0) a' w') → (∀ r a' w', v = .inr (.inr r) → Ret Tryz.prog fn fR w0 r a' w' → Q .ret a' w') →
      wpList Tryz.prog find_ops (fun e a' w' => match e with | .normal => (sqB find_l).wp Tryz.prog (Exit.then (fun a' w' => ∃ m', m' < q ∧ ∃ m vis, Rep w0 find_X.N m (mkS fTI (l, d, (m', vis))) a' w' ∧ ∀ p ∈ vis, hit l p = false) Q) a' w' | e => Exit.then (fun a' w' => ∃ m', m' < q ∧ ∃ m vis, Rep w0 find_X.N m (mkS fTI (l, d, (m', vis))) a' w' ∧ ∀ p ∈ vis, hit l p = false) Q e a' w') (find_ops.toList.drop 1) a1 w1 := by
    intro v S1 m1 a1 w1 hv hr1 hi1 k1 k2 k3
    refine regP_ok hN hv hr1 hi1 (fun S' n' m' a' w' hk hr' hi' => ?_)
    refine exec_ok (all := []) hfn (fun i an c _ h => by simp at h) hk hr' hi' (fun j c' hj => by
      have : loopsOf (sqB find_l) = [] := by kernel_rfl
      rw [this] at hj; simp at hj) (fun e s' n' m' a' w' h3 h4 h5 => ?_) (fun x a' w' h3 h4 => ?_)
    · cases e with
      | nrm =>
        simp only at h3
        split at h3
        · rename_i x hx
          obtain ⟨m2, hr2⟩ := deZ_ok h4 hx
          exact k1 x m2 a' w' (Option.some.inj h3).symm hr2
        · cases h3
      | ex id =>
        simp only at h3
        rcases cond_some h3 with ⟨he, hk⟩ | ⟨_, h6⟩
        · have := Nat.eq_of_beq_eq_true he
          subst this
          split at hk
          · rename_i y hy
            obtain ⟨m2, hr2⟩ := deZ_ok h4 hy
            exact k2 y m2 a' w' (Option.some.inj hk).symm hr2
          · cases hk
        · cases h6
    · exact k3 x a' w' (Option.some.inj h3).symm h4
  rw [hseq]
  refine wp_seq ?_
  rw [hops]
  refine wp_region_lit ?_
  rw [← hops]
  refine wpList_step fun K hK => ?_
  simp only [Region.wanted, if_true]
  refine next_wp (id0 := 3) hr hids.fresh rfl (t := 7) (i := 1) (j := 2) (n := q) (vis := vis) (by kernel_rfl) (by kernel_rfl) (fun hall => hK _ _ ?_) (fun p n' m' w' x y hp hn hG hH => hK _ _ ?_)
  · have hnone : fKsG.find? (hit l) = none := List.find?_eq_none.2 fun p hp => by rw [hv p (hall p hp)]; simp
    rw [hnone] at hF
    have hr1 := hr.put (d := some 8) (E := ⟨.tup [.v (.bool false)], []⟩) (v := .tuple #[.bool false]) (p := fun _ => true) hdst (Grows.refl _ m w) (fun t => ids_all) (.tup (.cons .v .nil)) hr.heap
    refine rest (end_eq l d q vis) hr1 ((hids.app (d := some 8) (E := ⟨.tup [.v (.bool false)], []⟩) (n' := 11) (by omega) (by kernel_rfl))) (fun x m' a' w' hx => by cases hx) (fun y m' a' w' hy hr' => ?_) (fun r a' w' hx => by cases hx)
    cases hy
    exact g1 d m' a' w' (Option.some.inj hF).symm hr'
  · have hr1 := hr.put (d := some 8) (E := ⟨.tup [.v (.bool true), .un, .un], [(1, .obj 1 ((n', p :: vis) : Nat × List (Int × Int)) 3)]⟩) (v := .tuple #[.bool true, x, y]) hdst hG (fun t => ids_mono (fun k hk => blt_old hk) (hids.fr t)) (.tup (.cons .v (.cons .un (.cons .un .nil)))) hH
    have hi1 : Ids (sNext l d q vis n' p) 11 := hids.app (d := some 8) (E := ⟨.tup [.v (.bool true), .un, .un], [(1, .obj 1 ((n', p :: vis) : Nat × List (Int × Int)) 3)]⟩) (n' := 11) (by omega) (by kernel_rfl)
    have heq := round_eq l d q vis n' hp
    cases hh : hit l p with
    | true =>
      rw [find_hit hp hh] at hF
      refine rest (heq.trans (tree_hit hp hh)) hr1 hi1 (fun x m' a' w' hx => by cases hx) (fun y m' a' w' hy => by cases hy) (fun r a' w' hx hret => ?_)
      cases hx
      exact g2 _ a' w' (Option.some.inj hF).symm hret
    | false =>
      refine rest (heq.trans (tree_miss hh)) hr1 hi1 (fun x m' a' w' hx hr' => ?_) (fun y m' a' w' hy => by cases hy) (fun r a' w' hx => by cases hx)
      cases hx
      exact ⟨n', hn, m', p :: vis, hr', fun z hz => by
        rcases List.mem_cons.1 hz with rfl | hz
        · exact hh
        · exact hv z hz⟩
theorem direct_find_eq (k : Nat) (l : List ByteArray) : direct_find k l = runF find_X 0 find_c [.one (.row 9 [.str])] l := by
  have h : runF find_X 0 find_c [.one (.row 9 [.str])] l = (findL 0 (l, (0, 0, 0, 0, 0, 0, 0, 0, 0, 0, 0, 0, 0), (6, []))).bind fun o => match o with
      | .inl d => some (d, false)
      | .inr r => some r := by kernel_rfl
  rw [h]
  unfold direct_find findL
  cases hf : fKsG.find? (hit l) <;> simp only [hf] <;> rfl
noncomputable def direct_find_e (k : Nat) : Ent Tryz.prog := ⟨106, [.one (.row 9 [.str])], fR, direct_find k, calls_ofL (X := find_X) (k := 0) (c := find_c) Tryz.func106 (by kernel_rfl) (by kernel_rfl) (by kernel_rfl) (fun w0 i an c' h h' => find_loop _ (by kernel_rfl) w0 i an c' h h') (fun l => direct_find_eq k l), fun _ _ => by kernel_rfl⟩
end Ex
namespace Ex
open Go
set_option maxHeartbeats 0
def direct_Parse (k : Nat) : (List ByteArray) → Option (GDirective × Int) := fun (l) =>
  (direct_find k l).bind fun o_1 =>
  bif o_1.2 then
   bif decide (o_1.1.1 = 1) && decide (o_1.1.2.1 = 1) then
    bif decide (w64 (2 + 0) < Int.ofNat (List.length l)) then
     (num_Parse k (List.getD l (Int.toNat (w64 (2 + 0))) (⟨#[]⟩ : ByteArray), 2147483647)).bind fun o_5 =>
      bif o_5.2 then
       bif decide (w64 (2 + w64 (0 + 1)) < Int.ofNat (List.length l)) then
        (num_Parse k (List.getD l (Int.toNat (w64 (2 + w64 (0 + 1)))) (⟨#[]⟩ : ByteArray), 2147483647)).bind fun o_8 =>
         bif o_8.2 then
          bif decide (w64 (2 + w64 (w64 (0 + 1) + 1)) < Int.ofNat (List.length l)) then
           (num_Parse k (List.getD l (Int.toNat (w64 (2 + w64 (w64 (0 + 1) + 1)))) (⟨#[]⟩ : ByteArray), 2147483647)).bind fun o_11 =>
            bif o_11.2 then
             bif decide (w64 (2 + w64 (w64 (w64 (0 + 1) + 1) + 1)) < Int.ofNat (List.length l)) then
              (num_Parse k (List.getD l (Int.toNat (w64 (2 + w64 (w64 (w64 (0 + 1) + 1) + 1)))) (⟨#[]⟩ : ByteArray), 2147483647)).bind fun o_14 =>
               bif o_14.2 then
                bif decide (w64 (2 + w64 (w64 (w64 (w64 (0 + 1) + 1) + 1) + 1)) < Int.ofNat (List.length l)) then
                 (num_Parse k (List.getD l (Int.toNat (w64 (2 + w64 (w64 (w64 (w64 (0 + 1) + 1) + 1) + 1)))) (⟨#[]⟩ : ByteArray), 2147483647)).bind fun o_17 =>
                  bif o_17.2 then
                   bif decide (w64 (2 + w64 (w64 (w64 (w64 (w64 (0 + 1) + 1) + 1) + 1) + 1)) < Int.ofNat (List.length l)) then
                    (num_Parse k (List.getD l (Int.toNat (w64 (2 + w64 (w64 (w64 (w64 (w64 (0 + 1) + 1) + 1) + 1) + 1)))) (⟨#[]⟩ : ByteArray), 2147483647)).bind fun o_20 =>
                     bif o_20.2 then
                      (direct_Right k (o_1.1.1, o_1.1.2.1, o_5.1, o_8.1, o_11.1, o_14.1, o_17.1, o_20.1, o_1.1.2.2.2.2.2.2.2.2)).bind fun o_22 =>
                       bif o_22 then
                        some (((o_1.1.1, o_1.1.2.1, o_5.1, o_8.1, o_11.1, o_14.1, o_17.1, o_20.1, o_1.1.2.2.2.2.2.2.2.2), 0))
                       else
                        some (((0, 0, 0, 0, 0, 0, 0, 0, 0, 0, 0, 0, 0), 1))
                     else
                      some (((0, 0, 0, 0, 0, 0, 0, 0, 0, 0, 0, 0, 0), 2))
                   else
                    none
                  else
                   some (((0, 0, 0, 0, 0, 0, 0, 0, 0, 0, 0, 0, 0), 2))
                else
                 none
               else
                some (((0, 0, 0, 0, 0, 0, 0, 0, 0, 0, 0, 0, 0), 2))
             else
              none
            else
             some (((0, 0, 0, 0, 0, 0, 0, 0, 0, 0, 0, 0, 0), 2))
          else
           none
         else
          some (((0, 0, 0, 0, 0, 0, 0, 0, 0, 0, 0, 0, 0), 2))
       else
        none
      else
       some (((0, 0, 0, 0, 0, 0, 0, 0, 0, 0, 0, 0, 0), 2))
    else
     none
   else
    bif decide (o_1.1.1 = 2) && decide (o_1.1.2.1 = 1) then
     bif decide (w64 (2 + 0) < Int.ofNat (List.length l)) then
      (num_Parse k (List.getD l (Int.toNat (w64 (2 + 0))) (⟨#[]⟩ : ByteArray), 2147483647)).bind fun o_6 =>
       bif o_6.2 then
        (direct_Right k (o_1.1.1, o_1.1.2.1, o_6.1, o_1.1.2.2.2)).bind fun o_8 =>
         bif o_8 then
          some (((o_1.1.1, o_1.1.2.1, o_6.1, o_1.1.2.2.2), 0))
         else
          some (((0, 0, 0, 0, 0, 0, 0, 0, 0, 0, 0, 0, 0), 1))
       else
        some (((0, 0, 0, 0, 0, 0, 0, 0, 0, 0, 0, 0, 0), 2))
     else
      none
    else
     bif decide (o_1.1.1 = 3) && decide (o_1.1.2.1 = 1) then
      bif decide (w64 (2 + 0) < Int.ofNat (List.length l)) then
       (num_Parse k (List.getD l (Int.toNat (w64 (2 + 0))) (⟨#[]⟩ : ByteArray), 2147483647)).bind fun o_7 =>
        bif o_7.2 then
         bif decide (w64 (2 + w64 (0 + 1)) < Int.ofNat (List.length l)) then
          (num_Parse k (List.getD l (Int.toNat (w64 (2 + w64 (0 + 1)))) (⟨#[]⟩ : ByteArray), 2147483647)).bind fun o_10 =>
           bif o_10.2 then
            (direct_Right k (o_1.1.1, o_1.1.2.1, o_7.1, o_1.1.2.2.2.1, o_1.1.2.2.2.2.1, o_1.1.2.2.2.2.2.1, o_1.1.2.2.2.2.2.2.1, o_10.1, o_1.1.2.2.2.2.2.2.2.2)).bind fun o_12 =>
             bif o_12 then
              some (((o_1.1.1, o_1.1.2.1, o_7.1, o_1.1.2.2.2.1, o_1.1.2.2.2.2.1, o_1.1.2.2.2.2.2.1, o_1.1.2.2.2.2.2.2.1, o_10.1, o_1.1.2.2.2.2.2.2.2.2), 0))
             else
              some (((0, 0, 0, 0, 0, 0, 0, 0, 0, 0, 0, 0, 0), 1))
           else
            some (((0, 0, 0, 0, 0, 0, 0, 0, 0, 0, 0, 0, 0), 2))
         else
          none
        else
         some (((0, 0, 0, 0, 0, 0, 0, 0, 0, 0, 0, 0, 0), 2))
      else
       none
     else
      bif decide (o_1.1.1 = 1) && decide (o_1.1.2.1 = 2) then
       bif decide (w64 (2 + 0) < Int.ofNat (List.length l)) then
        (num_Parse k (List.getD l (Int.toNat (w64 (2 + 0))) (⟨#[]⟩ : ByteArray), 2147483647)).bind fun o_8 =>
         bif o_8.2 then
          bif decide (w64 (2 + w64 (0 + 1)) < Int.ofNat (List.length l)) then
           (num_Parse k (List.getD l (Int.toNat (w64 (2 + w64 (0 + 1)))) (⟨#[]⟩ : ByteArray), 2147483647)).bind fun o_11 =>
            bif o_11.2 then
             bif decide (w64 (2 + w64 (w64 (0 + 1) + 1)) < Int.ofNat (List.length l)) then
              (num_Parse k (List.getD l (Int.toNat (w64 (2 + w64 (w64 (0 + 1) + 1)))) (⟨#[]⟩ : ByteArray), 2147483647)).bind fun o_14 =>
               bif o_14.2 then
                bif decide (w64 (2 + w64 (w64 (w64 (0 + 1) + 1) + 1)) < Int.ofNat (List.length l)) then
                 (num_Parse k (List.getD l (Int.toNat (w64 (2 + w64 (w64 (w64 (0 + 1) + 1) + 1)))) (⟨#[]⟩ : ByteArray), 2147483647)).bind fun o_17 =>
                  bif o_17.2 then
                   bif decide (w64 (2 + w64 (w64 (w64 (w64 (0 + 1) + 1) + 1) + 1)) < Int.ofNat (List.length l)) then
                    (num_Parse k (List.getD l (Int.toNat (w64 (2 + w64 (w64 (w64 (w64 (0 + 1) + 1) + 1) + 1)))) (⟨#[]⟩ : ByteArray), 2147483647)).bind fun o_20 =>
                     bif o_20.2 then
                      (direct_Right k (o_1.1.1, o_1.1.2.1, o_1.1.2.2.1, o_1.1.2.2.2.1, o_1.1.2.2.2.2.1, o_1.1.2.2.2.2.2.1, o_1.1.2.2.2.2.2.2.1, o_1.1.2.2.2.2.2.2.2.1, o_8.1, o_11.1, o_14.1, o_17.1, o_20.1)).bind fun o_22 =>
                       bif o_22 then
                        some (((o_1.1.1, o_1.1.2.1, o_1.1.2.2.1, o_1.1.2.2.2.1, o_1.1.2.2.2.2.1, o_1.1.2.2.2.2.2.1, o_1.1.2.2.2.2.2.2.1, o_1.1.2.2.2.2.2.2.2.1, o_8.1, o_11.1, o_14.1, o_17.1, o_20.1), 0))
                       else
                        some (((0, 0, 0, 0, 0, 0, 0, 0, 0, 0, 0, 0, 0), 1))
                     else
                      some (((0, 0, 0, 0, 0, 0, 0, 0, 0, 0, 0, 0, 0), 2))
                   else
                    none
                  else
                   some (((0, 0, 0, 0, 0, 0, 0, 0, 0, 0, 0, 0, 0), 2))
                else
                 none
               else
                some (((0, 0, 0, 0, 0, 0, 0, 0, 0, 0, 0, 0, 0), 2))
             else
              none
            else
             some (((0, 0, 0, 0, 0, 0, 0, 0, 0, 0, 0, 0, 0), 2))
          else
           none
         else
          some (((0, 0, 0, 0, 0, 0, 0, 0, 0, 0, 0, 0, 0), 2))
       else
        none
      else
       bif decide (o_1.1.1 = 2) && decide (o_1.1.2.1 = 2) then
        bif decide (w64 (2 + 0) < Int.ofNat (List.length l)) then
         (num_Parse k (List.getD l (Int.toNat (w64 (2 + 0))) (⟨#[]⟩ : ByteArray), 2147483647)).bind fun o_9 =>
          bif o_9.2 then
           bif decide (w64 (2 + w64 (0 + 1)) < Int.ofNat (List.length l)) then
            (num_Parse k (List.getD l (Int.toNat (w64 (2 + w64 (0 + 1)))) (⟨#[]⟩ : ByteArray), 2147483647)).bind fun o_12 =>
             bif o_12.2 then
              bif decide (w64 (2 + w64 (w64 (0 + 1) + 1)) < Int.ofNat (List.length l)) then
               (num_Parse k (List.getD l (Int.toNat (w64 (2 + w64 (w64 (0 + 1) + 1)))) (⟨#[]⟩ : ByteArray), 2147483647)).bind fun o_15 =>
                bif o_15.2 then
                 (direct_Right k (o_1.1.1, o_1.1.2.1, o_1.1.2.2.1, o_1.1.2.2.2.1, o_1.1.2.2.2.2.1, o_1.1.2.2.2.2.2.1, o_1.1.2.2.2.2.2.2.1, o_1.1.2.2.2.2.2.2.2.1, o_9.1, o_12.1, o_15.1, o_1.1.2.2.2.2.2.2.2.2.2.2.2)).bind fun o_17 =>
                  bif o_17 then
                   some (((o_1.1.1, o_1.1.2.1, o_1.1.2.2.1, o_1.1.2.2.2.1, o_1.1.2.2.2.2.1, o_1.1.2.2.2.2.2.1, o_1.1.2.2.2.2.2.2.1, o_1.1.2.2.2.2.2.2.2.1, o_9.1, o_12.1, o_15.1, o_1.1.2.2.2.2.2.2.2.2.2.2.2), 0))
                  else
                   some (((0, 0, 0, 0, 0, 0, 0, 0, 0, 0, 0, 0, 0), 1))
                else
                 some (((0, 0, 0, 0, 0, 0, 0, 0, 0, 0, 0, 0, 0), 2))
              else
               none
             else
              some (((0, 0, 0, 0, 0, 0, 0, 0, 0, 0, 0, 0, 0), 2))
           else
            none
          else
           some (((0, 0, 0, 0, 0, 0, 0, 0, 0, 0, 0, 0, 0), 2))
        else
         none
       else
        bif decide (o_1.1.1 = 3) && decide (o_1.1.2.1 = 2) then
         bif decide (w64 (2 + 0) < Int.ofNat (List.length l)) then
          (num_Parse k (List.getD l (Int.toNat (w64 (2 + 0))) (⟨#[]⟩ : ByteArray), 2147483647)).bind fun o_10 =>
           bif o_10.2 then
            bif decide (w64 (2 + w64 (0 + 1)) < Int.ofNat (List.length l)) then
             (num_Parse k (List.getD l (Int.toNat (w64 (2 + w64 (0 + 1)))) (⟨#[]⟩ : ByteArray), 2147483647)).bind fun o_13 =>
              bif o_13.2 then
               bif decide (w64 (2 + w64 (w64 (0 + 1) + 1)) < Int.ofNat (List.length l)) then
                (num_Parse k (List.getD l (Int.toNat (w64 (2 + w64 (w64 (0 + 1) + 1)))) (⟨#[]⟩ : ByteArray), 2147483647)).bind fun o_16 =>
                 bif o_16.2 then
                  bif decide (w64 (2 + w64 (w64 (w64 (0 + 1) + 1) + 1)) < Int.ofNat (List.length l)) then
                   (num_Parse k (List.getD l (Int.toNat (w64 (2 + w64 (w64 (w64 (0 + 1) + 1) + 1)))) (⟨#[]⟩ : ByteArray), 2147483647)).bind fun o_19 =>
                    bif o_19.2 then
                     (direct_Right k (o_1.1.1, o_1.1.2.1, o_1.1.2.2.1, o_1.1.2.2.2.1, o_1.1.2.2.2.2.1, o_1.1.2.2.2.2.2.1, o_1.1.2.2.2.2.2.2.1, o_1.1.2.2.2.2.2.2.2.1, o_10.1, o_13.1, o_16.1, o_1.1.2.2.2.2.2.2.2.2.2.2.2.1, o_19.1)).bind fun o_21 =>
                      bif o_21 then
                       some (((o_1.1.1, o_1.1.2.1, o_1.1.2.2.1, o_1.1.2.2.2.1, o_1.1.2.2.2.2.1, o_1.1.2.2.2.2.2.1, o_1.1.2.2.2.2.2.2.1, o_1.1.2.2.2.2.2.2.2.1, o_10.1, o_13.1, o_16.1, o_1.1.2.2.2.2.2.2.2.2.2.2.2.1, o_19.1), 0))
                      else
                       some (((0, 0, 0, 0, 0, 0, 0, 0, 0, 0, 0, 0, 0), 1))
                    else
                     some (((0, 0, 0, 0, 0, 0, 0, 0, 0, 0, 0, 0, 0), 2))
                  else
                   none
                 else
                  some (((0, 0, 0, 0, 0, 0, 0, 0, 0, 0, 0, 0, 0), 2))
               else
                none
              else
               some (((0, 0, 0, 0, 0, 0, 0, 0, 0, 0, 0, 0, 0), 2))
            else
             none
           else
            some (((0, 0, 0, 0, 0, 0, 0, 0, 0, 0, 0, 0, 0), 2))
         else
          none
        else
         none
  else
   some (((0, 0, 0, 0, 0, 0, 0, 0, 0, 0, 0, 0, 0), 2))
noncomputable def direct_Parse_e := entOf (P := Tryz.prog) (A := [.one (.row 9 [.str])]) (R := [.agg lGDirective, .one (.sc (.int .i64))]) Tryz.f66 direct_Parse (fun k => ⟨[direct_find_e k, num_Parse_e k, direct_Right_e k], [], [hkMapC fC, hkMap fT, hkClo [fClo1, fClo2, fClo3, fClo4, fClo5, fClo6], hkRow Tryz.prog, hkStr Tryz.prog]⟩) [none] Tryz.func66 (by kernel_rfl) (by kernel_rfl) trivial (fun k x => by kernel_rfl) fun _ _ => by kernel_rfl
def text_rows_L0 : Nat → ((List (Int × List ByteArray)) × (List ByteArray) × Int × Int) → Option ((List (Int × List ByteArray)) ⊕ (List (Int × List ByteArray)))
  | 0, _ => none
  | k + 1, (out2, t7, t8, t9) =>
  bif decide (t9 < t8) then
  bif decide (0 ≤ t9) then
   bif decide (t9 < Int.ofNat (List.length t7)) then
    (words_Words k (List.getD t7 (Int.toNat t9) (⟨#[]⟩ : ByteArray))).bind fun o_4 =>
     bif decide (0 < Int.ofNat (List.length o_4)) then
      bif decide ((List.length out2 + List.length [(w64 (t9 + 1), o_4)]) * 32 ≤ 140737488355328) then
       text_rows_L0 k (out2 ++ [(w64 (t9 + 1), o_4)], t7, t8, w64 (t9 + 1))
      else
       none
     else
      text_rows_L0 k (out2, t7, t8, w64 (t9 + 1))
   else
    none
  else
   none
 else
  some (Sum.inl out2)
def text_rows (k : Nat) : ByteArray → Option (List (Int × List ByteArray)) := fun (s) =>
  (words_Lines k s).bind fun o_1 =>
  (text_rows_L0 k ([], o_1, Int.ofNat (List.length o_1), 0)).bind fun o_2 =>
   match o_2 with
   | .inl o_3 =>
    some (o_3)
   | .inr o_3 =>
    some (o_3)
noncomputable def text_rows_e := entOf (P := Tryz.prog) (A := [.one (.sc (.str))]) (R := [.one (.row 100 [.int .i64, .row [.str]])]) Tryz.f65 text_rows (fun k => ⟨[words_Lines_e k, words_Words_e k], [], [hkStr Tryz.prog]⟩) [some ⟨0, [(2, .one (.own 100 [.int .i64, .row [.str]])), (7, .one (.own 9 [.str])), (8, .one (.sc (.int .i64))), (9, .one (.sc (.int .i64)))], [(2, .one (.own 100 [.int .i64, .row [.str]]))], text_rows_L0⟩] Tryz.func65 (by kernel_rfl) (by kernel_rfl) ⟨⟨fun _ => rfl, fun k x => by kernel_rfl⟩, trivial⟩ (fun k x => by kernel_rfl) fun _ _ => by kernel_rfl
def text_Parse_L0 : Nat → ((Int × Int) × (List GDirective) × (List (Int × List ByteArray)) × Int × Int) → Option (((Int × Int) × (List GDirective)) ⊕ ((List GDirective) × (Int × Int)))
  | 0, _ => none
  | k + 1, (t3, out4, t10, t11, t12) =>
  bif decide (t12 < t11) then
  bif decide (0 ≤ t12) then
   bif decide (t12 < Int.ofNat (List.length t10)) then
    (direct_Parse k (List.getD t10 (Int.toNat t12) (0, [])).2).bind fun o_4 =>
     bif !decide (o_4.2 = 0) then
      some (Sum.inr ([], (List.getD t10 (Int.toNat t12) (0, [])).1, o_4.2))
     else
      bif decide ((List.length out4 + List.length [o_4.1]) * 104 ≤ 140737488355328) then
       text_Parse_L0 k (t3, out4 ++ [o_4.1], t10, t11, w64 (t12 + 1))
      else
       none
   else
    none
  else
   none
 else
  some (Sum.inl (t3, out4))
def text_Parse (k : Nat) : ByteArray → Option ((List GDirective) × (Int × Int)) := fun (s) =>
  (text_rows k s).bind fun o_1 =>
  (text_Parse_L0 k ((0, 0), [], o_1, Int.ofNat (List.length o_1), 0)).bind fun o_2 =>
   match o_2 with
   | .inl o_3 =>
    some ((o_3.2, 0, 0))
   | .inr o_3 =>
    some (o_3)
noncomputable def text_Parse_e := entOf (P := Tryz.prog) (A := [.one (.sc (.str))]) (R := [.one (.row 38 kGDirective), .agg [.sc (.int .i64), .sc (.int .i64)]]) Tryz.f25 text_Parse (fun k => ⟨[text_rows_e k, direct_Parse_e k], [], [hkStr Tryz.prog]⟩) [some ⟨0, [(3, .box 45 [.sc (.int .i64), .sc (.int .i64)]), (4, .one (.own 38 kGDirective)), (10, .one (.own 100 [.int .i64, .row [.str]])), (11, .one (.sc (.int .i64))), (12, .one (.sc (.int .i64)))], [(3, .box 45 [.sc (.int .i64), .sc (.int .i64)]), (4, .one (.own 38 kGDirective))], text_Parse_L0⟩] Tryz.func25 (by kernel_rfl) (by kernel_rfl) ⟨⟨fun _ => rfl, fun k x => by kernel_rfl⟩, trivial⟩ (fun k x => by kernel_rfl) fun _ _ => by kernel_rfl
def text_Lines_L0 : Nat → ((List Int) × (List (Int × List ByteArray)) × Int × Int) → Option ((List Int) ⊕ (List Int))
  | 0, _ => none
  | k + 1, (out2, t6, t7, t8) =>
  bif decide (t8 < t7) then
  bif decide (0 ≤ t8) then
   bif decide (t8 < Int.ofNat (List.length t6)) then
    bif decide ((List.length out2 + List.length [(List.getD t6 (Int.toNat t8) (0, [])).1]) * 8 ≤ 140737488355328) then
     text_Lines_L0 k (out2 ++ [(List.getD t6 (Int.toNat t8) (0, [])).1], t6, t7, w64 (t8 + 1))
    else
     none
   else
    none
  else
   none
 else
  some (Sum.inl out2)
def text_Lines (k : Nat) : ByteArray → Option (List Int) := fun (s) =>
  (text_rows k s).bind fun o_1 =>
  (text_Lines_L0 k ([], o_1, Int.ofNat (List.length o_1), 0)).bind fun o_2 =>
   match o_2 with
   | .inl o_3 =>
    some (o_3)
   | .inr o_3 =>
    some (o_3)
noncomputable def text_Lines_e := entOf (P := Tryz.prog) (A := [.one (.sc (.str))]) (R := [.one (.row 3 [.int .i64])]) Tryz.f26 text_Lines (fun k => ⟨[text_rows_e k], [], [hkStr Tryz.prog]⟩) [some ⟨0, [(2, .one (.own 3 [.int .i64])), (6, .one (.own 100 [.int .i64, .row [.str]])), (7, .one (.sc (.int .i64))), (8, .one (.sc (.int .i64)))], [(2, .one (.own 3 [.int .i64]))], text_Lines_L0⟩] Tryz.func26 (by kernel_rfl) (by kernel_rfl) ⟨⟨fun _ => rfl, fun k x => by kernel_rfl⟩, trivial⟩ (fun k x => by kernel_rfl) fun _ _ => by kernel_rfl
def rf04_first (k : Nat) : GDirective → Option (List ByteArray) := fun (d) =>
  bif decide (0 ≤ w64 (d.1 - 1)) then
  bif decide (w64 (d.1 - 1) < Int.ofNat (List.length [(⟨#[97]⟩ : ByteArray), (⟨#[100]⟩ : ByteArray), (⟨#[99]⟩ : ByteArray)])) then
   bif decide (0 ≤ w64 (d.2.1 - 1)) then
    bif decide (w64 (d.2.1 - 1) < Int.ofNat (List.length [(⟨#[99, 111, 110, 116, 97, 99, 116]⟩ : ByteArray), (⟨#[114, 97, 110, 103, 101]⟩ : ByteArray)])) then
     some ([List.getD [(⟨#[97]⟩ : ByteArray), (⟨#[100]⟩ : ByteArray), (⟨#[99]⟩ : ByteArray)] (Int.toNat (w64 (d.1 - 1))) (⟨#[]⟩ : ByteArray), List.getD [(⟨#[99, 111, 110, 116, 97, 99, 116]⟩ : ByteArray), (⟨#[114, 97, 110, 103, 101]⟩ : ByteArray)] (Int.toNat (w64 (d.2.1 - 1))) (⟨#[]⟩ : ByteArray)])
    else
     none
   else
    none
  else
   none
 else
  none
noncomputable def rf04_first_e := entOf (P := Tryz.prog) (A := [.agg lGDirective]) (R := [.one (.row 9 [.str])]) Tryz.f193 rf04_first (fun k => ⟨[], [], [hkStr Tryz.prog]⟩) [] Tryz.func193 (by kernel_rfl) (by kernel_rfl) trivial (fun k x => by kernel_rfl) fun _ _ => by kernel_rfl
def rf04_numbers (k : Nat) : GDirective → Option (List Int) := fun (d) =>
  bif decide (d.2.1 = 1) then
  bif decide (d.1 = 1) then
   some ([d.2.2.1, d.2.2.2.1, d.2.2.2.2.1, d.2.2.2.2.2.1, d.2.2.2.2.2.2.1, d.2.2.2.2.2.2.2.1])
  else
   bif decide (d.1 = 2) then
    some ([d.2.2.1])
   else
    some ([d.2.2.1, d.2.2.2.2.2.2.2.1])
 else
  bif decide (d.1 = 1) then
   some ([d.2.2.2.2.2.2.2.2.1, d.2.2.2.2.2.2.2.2.2.1, d.2.2.2.2.2.2.2.2.2.2.1, d.2.2.2.2.2.2.2.2.2.2.2.1, d.2.2.2.2.2.2.2.2.2.2.2.2])
  else
   bif decide (d.1 = 2) then
    some ([d.2.2.2.2.2.2.2.2.1, d.2.2.2.2.2.2.2.2.2.1, d.2.2.2.2.2.2.2.2.2.2.1])
   else
    some ([d.2.2.2.2.2.2.2.2.1, d.2.2.2.2.2.2.2.2.2.1, d.2.2.2.2.2.2.2.2.2.2.1, d.2.2.2.2.2.2.2.2.2.2.2.2])
noncomputable def rf04_numbers_e := entOf (P := Tryz.prog) (A := [.agg lGDirective]) (R := [.one (.row 3 [.int .i64])]) Tryz.f194 rf04_numbers (fun k => ⟨[], [], [hkStr Tryz.prog]⟩) [] Tryz.func194 (by kernel_rfl) (by kernel_rfl) trivial (fun k x => by kernel_rfl) fun _ _ => by kernel_rfl
noncomputable def rf01_Text_c : Code := Tryz.f209.body.getD .skip
def rf01_Text : Nat → Int → Option (ByteArray)
  | 0, _ => none
  | k + 1, (n) =>
  bif decide (n < 0) then
  bif decide (-10 < n) then
   (rf01_Text k (w64 (0 - n))).bind fun o_3 =>
    bif decide (ByteArray.size (⟨#[45]⟩ : ByteArray) + ByteArray.size o_3 ≤ 9223372036854775807) then
     some ((⟨#[45]⟩ : ByteArray) ++ o_3)
    else
     none
  else
   (rf01_Text k (w64 (Int.tdiv n 10))).bind fun o_3 =>
    (rf01_Text k (w64 (0 - Int.tmod n 10))).bind fun o_4 =>
     bif decide (ByteArray.size o_3 + ByteArray.size o_4 ≤ 9223372036854775807) then
      some (o_3 ++ o_4)
     else
      none
 else
  bif decide (n < 10) then
   some (strOfNums [IntKind.wrap IntKind.u8 (w64 (48 + Int.tmod n 10))])
  else
   (rf01_Text k (w64 (Int.tdiv n 10))).bind fun o_3 =>
    bif decide (ByteArray.size o_3 + ByteArray.size (strOfNums [IntKind.wrap IntKind.u8 (w64 (48 + Int.tmod n 10))]) ≤ 9223372036854775807) then
     some (o_3 ++ strOfNums [IntKind.wrap IntKind.u8 (w64 (48 + Int.tmod n 10))])
    else
     none
noncomputable def rf01_Text_X (k : Nat) (ih : CallsOk Tryz.prog 209 [.one (.sc (.int .i64))] [.one (.sc (.str))] (rf01_Text k)) : Cx Tryz.prog [.one (.sc (.str))] := ⟨fun k' => ⟨[⟨209, [.one (.sc (.int .i64))], [.one (.sc (.str))], rf01_Text k, ih, fun _ _ => by kernel_rfl⟩], [], [hkStr Tryz.prog]⟩, Tryz.f209.ntmps, Tryz.f209.results, []⟩
theorem rf01_Text_eq (k : Nat) (ih : CallsOk Tryz.prog 209 [.one (.sc (.int .i64))] [.one (.sc (.str))] (rf01_Text k)) (x : Int) : rf01_Text (k + 1) x = runF (rf01_Text_X k ih) k rf01_Text_c [.one (.sc (.int .i64))] x := by kernel_rfl
theorem rf01_Text_ok : (k : Nat) → CallsOk Tryz.prog 209 [.one (.sc (.int .i64))] [.one (.sc (.str))] (rf01_Text k)
  | 0 => fun _ _ _ _ h => by cases h
  | k + 1 => calls_of (X := rf01_Text_X k (rf01_Text_ok k)) (k := k) (c := rf01_Text_c) Tryz.func209 (by kernel_rfl) (by kernel_rfl) (by kernel_rfl) (LoopEqs.all (show LoopEqs (rf01_Text_X k (rf01_Text_ok k)) rf01_Text_c (rf01_Text_X k (rf01_Text_ok k)).L 0 from trivial)) (fun x => rf01_Text_eq k (rf01_Text_ok k) x)
noncomputable def rf01_Text_e (k : Nat) : Ent Tryz.prog := ⟨209, [.one (.sc (.int .i64))], [.one (.sc (.str))], rf01_Text k, rf01_Text_ok k, fun _ _ => by kernel_rfl⟩
def rf01_Parse_L0 : Nat → (ByteArray × Int × Int × Int) → Option ((ByteArray × Int × Int) ⊕ (Int × Bool))
  | 0, _ => none
  | k + 1, (s, high, n, i) =>
  bif decide (i < Int.ofNat (ByteArray.size s)) then
  bif decide (0 ≤ i) && decide (i < Int.ofNat (ByteArray.size s)) then
   bif decide (w64 (w64 (byteI s i) - 48) < 0) then
    some (Sum.inr (0, false))
   else
    bif decide (9 < w64 (w64 (byteI s i) - 48)) then
     some (Sum.inr (0, false))
    else
     bif decide (w64 (Int.tdiv (w64 (9223372036854775807 - w64 (w64 (byteI s i) - 48))) 10) < n) then
      some (Sum.inr (0, false))
     else
      rf01_Parse_L0 k (s, high, w64 (w64 (10 * n) + w64 (w64 (byteI s i) - 48)), w64 (i + 1))
  else
   none
 else
  some (Sum.inl (s, high, n))
def rf01_Parse (k : Nat) : (ByteArray × Int) → Option (Int × Bool) := fun (s, high) =>
  (rf01_Parse_L0 k (s, high, 0, 0)).bind fun o_1 =>
  match o_1 with
  | .inl o_2 =>
   bif decide (o_2.2.1 < o_2.2.2) then
    some ((0, false))
   else
    (rf01_Text k o_2.2.2).bind fun o_4 =>
     bif !o_4.data.toList == o_2.1.data.toList then
      some ((0, false))
     else
      some ((o_2.2.2, true))
  | .inr o_2 =>
   some (o_2)
noncomputable def rf01_Parse_e := entOf (P := Tryz.prog) (A := [.one (.sc (.str)), .one (.sc (.int .i64))]) (R := [.one (.sc (.int .i64)), .one (.sc (.bool))]) Tryz.f195 rf01_Parse (fun k => ⟨[rf01_Text_e k], [], [hkStr Tryz.prog]⟩) [some ⟨0, [(0, .one (.sc (.str))), (1, .one (.sc (.int .i64))), (6, .one (.sc (.int .i64))), (7, .one (.sc (.int .i64)))], [(0, .one (.sc (.str))), (1, .one (.sc (.int .i64))), (6, .one (.sc (.int .i64)))], rf01_Parse_L0⟩] Tryz.func195 (by kernel_rfl) (by kernel_rfl) ⟨⟨fun _ => rfl, fun k x => by kernel_rfl⟩, trivial⟩ (fun k x => by kernel_rfl) fun _ _ => by kernel_rfl
def rf04_made (k : Nat) : (Int × Int × (List Int)) → Option (GDirective) := fun (op, kind, n) =>
  bif decide (kind = 1) then
  bif decide (0 < Int.ofNat (List.length n)) then
   bif decide (op = 1) then
    bif decide (0 < Int.ofNat (List.length n)) then
     bif decide (1 < Int.ofNat (List.length n)) then
      bif decide (2 < Int.ofNat (List.length n)) then
       bif decide (3 < Int.ofNat (List.length n)) then
        bif decide (4 < Int.ofNat (List.length n)) then
         bif decide (5 < Int.ofNat (List.length n)) then
          bif decide (op = 3) then
           bif decide (1 < Int.ofNat (List.length n)) then
            some ((op, kind, List.getD n (Int.toNat 0) 0, List.getD n (Int.toNat 1) 0, List.getD n (Int.toNat 2) 0, List.getD n (Int.toNat 3) 0, List.getD n (Int.toNat 4) 0, List.getD n (Int.toNat 1) 0, 0, 0, 0, 0, 0))
           else
            none
          else
           some ((op, kind, List.getD n (Int.toNat 0) 0, List.getD n (Int.toNat 1) 0, List.getD n (Int.toNat 2) 0, List.getD n (Int.toNat 3) 0, List.getD n (Int.toNat 4) 0, List.getD n (Int.toNat 5) 0, 0, 0, 0, 0, 0))
         else
          none
        else
         none
       else
        none
      else
       none
     else
      none
    else
     none
   else
    bif decide (op = 3) then
     bif decide (1 < Int.ofNat (List.length n)) then
      some ((op, kind, List.getD n (Int.toNat 0) 0, 0, 0, 0, 0, List.getD n (Int.toNat 1) 0, 0, 0, 0, 0, 0))
     else
      none
    else
     some ((op, kind, List.getD n (Int.toNat 0) 0, 0, 0, 0, 0, 0, 0, 0, 0, 0, 0))
  else
   none
 else
  bif decide (0 < Int.ofNat (List.length n)) then
   bif decide (1 < Int.ofNat (List.length n)) then
    bif decide (2 < Int.ofNat (List.length n)) then
     bif decide (op = 1) then
      bif decide (3 < Int.ofNat (List.length n)) then
       bif decide (4 < Int.ofNat (List.length n)) then
        bif decide (op = 3) then
         bif decide (3 < Int.ofNat (List.length n)) then
          some ((op, kind, 0, 0, 0, 0, 0, 0, List.getD n (Int.toNat 0) 0, List.getD n (Int.toNat 1) 0, List.getD n (Int.toNat 2) 0, List.getD n (Int.toNat 3) 0, List.getD n (Int.toNat 3) 0))
         else
          none
        else
         some ((op, kind, 0, 0, 0, 0, 0, 0, List.getD n (Int.toNat 0) 0, List.getD n (Int.toNat 1) 0, List.getD n (Int.toNat 2) 0, List.getD n (Int.toNat 3) 0, List.getD n (Int.toNat 4) 0))
       else
        none
      else
       none
     else
      bif decide (op = 3) then
       bif decide (3 < Int.ofNat (List.length n)) then
        some ((op, kind, 0, 0, 0, 0, 0, 0, List.getD n (Int.toNat 0) 0, List.getD n (Int.toNat 1) 0, List.getD n (Int.toNat 2) 0, 0, List.getD n (Int.toNat 3) 0))
       else
        none
      else
       some ((op, kind, 0, 0, 0, 0, 0, 0, List.getD n (Int.toNat 0) 0, List.getD n (Int.toNat 1) 0, List.getD n (Int.toNat 2) 0, 0, 0))
    else
     none
   else
    none
  else
   none
noncomputable def rf04_made_e := entOf (P := Tryz.prog) (A := [.one (.sc (.int .i64)), .one (.sc (.int .i64)), .one (.row 3 [.int .i64])]) (R := [.agg lGDirective]) Tryz.f196 rf04_made (fun k => ⟨[], [], [hkStr Tryz.prog]⟩) [] Tryz.func196 (by kernel_rfl) (by kernel_rfl) trivial (fun k x => by kernel_rfl) fun _ _ => by kernel_rfl
def rf04_Parse_L2 : Nat → ((List ByteArray) × GDirective × Int × Int × (List Int) × Int) → Option ((GDirective × Int × Int × (List Int)) ⊕ (GDirective × Int))
  | 0, _ => none
  | k + 1, (l, t2, op, kind, n, i) =>
  bif decide (i < Int.ofNat (List.length l)) then
  bif decide (0 ≤ i) then
   bif decide (i < Int.ofNat (List.length l)) then
    (rf01_Parse k (List.getD l (Int.toNat i) (⟨#[]⟩ : ByteArray), 2147483647)).bind fun o_4 =>
     bif o_4.2 then
      bif decide ((List.length n + List.length [o_4.1]) * 8 ≤ 140737488355328) then
       rf04_Parse_L2 k (l, t2, op, kind, n ++ [o_4.1], w64 (i + 1))
      else
       none
     else
      some (Sum.inr ((0, 0, 0, 0, 0, 0, 0, 0, 0, 0, 0, 0, 0), 2))
   else
    none
  else
   none
 else
  some (Sum.inl (t2, op, kind, n))
def rf04_Parse_L1 : Nat → ((List ByteArray) × GDirective × Int × Int) → Option (((List ByteArray) × GDirective × Int) ⊕ (GDirective × Int))
  | 0, _ => none
  | k + 1, (l, t2, op, kind) =>
  bif decide (kind ≤ 2) then
  (rf04_first k (op, kind, 0, 0, 0, 0, 0, 0, 0, 0, 0, 0, 0)).bind fun o_2 =>
   (rf04_numbers k (op, kind, 0, 0, 0, 0, 0, 0, 0, 0, 0, 0, 0)).bind fun o_3 =>
    bif !decide (Int.ofNat (List.length l) = w64 (2 + Int.ofNat (List.length o_3))) then
     rf04_Parse_L1 k (l, t2, op, w64 (kind + 1))
    else
     bif decide (0 < Int.ofNat (List.length l)) then
      bif decide (0 < Int.ofNat (List.length o_2)) then
       bif !(List.getD l (Int.toNat 0) (⟨#[]⟩ : ByteArray)).data.toList == (List.getD o_2 (Int.toNat 0) (⟨#[]⟩ : ByteArray)).data.toList then
        rf04_Parse_L1 k (l, t2, op, w64 (kind + 1))
       else
        bif decide (1 < Int.ofNat (List.length l)) then
         bif decide (1 < Int.ofNat (List.length o_2)) then
          bif !(List.getD l (Int.toNat 1) (⟨#[]⟩ : ByteArray)).data.toList == (List.getD o_2 (Int.toNat 1) (⟨#[]⟩ : ByteArray)).data.toList then
           rf04_Parse_L1 k (l, t2, op, w64 (kind + 1))
          else
           (rf04_Parse_L2 k (l, t2, op, kind, [], 2)).bind fun o_11 =>
            match o_11 with
            | .inl o_12 =>
             (rf04_made k o_12.2).bind fun o_13 =>
              (rf04_Right k o_13).bind fun o_14 =>
               bif o_14 then
                some (Sum.inr (o_13, 0))
               else
                some (Sum.inr ((0, 0, 0, 0, 0, 0, 0, 0, 0, 0, 0, 0, 0), 1))
            | .inr o_12 =>
             some (Sum.inr o_12)
         else
          none
        else
         none
      else
       none
     else
      none
 else
  some (Sum.inl (l, t2, op))
def rf04_Parse_L0 : Nat → ((List ByteArray) × GDirective × Int) → Option ((GDirective) ⊕ (GDirective × Int))
  | 0, _ => none
  | k + 1, (l, t2, op) =>
  bif decide (op ≤ 3) then
  (rf04_Parse_L1 k (l, t2, op, 1)).bind fun o_2 =>
   match o_2 with
   | .inl o_3 =>
    rf04_Parse_L0 k (o_3.1, o_3.2.1, w64 (o_3.2.2 + 1))
   | .inr o_3 =>
    some (Sum.inr o_3)
 else
  some (Sum.inl t2)
def rf04_Parse (k : Nat) : (List ByteArray) → Option (GDirective × Int) := fun (l) =>
  (rf04_Parse_L0 k (l, (0, 0, 0, 0, 0, 0, 0, 0, 0, 0, 0, 0, 0), 1)).bind fun o_1 =>
  match o_1 with
  | .inl o_2 =>
   some (((0, 0, 0, 0, 0, 0, 0, 0, 0, 0, 0, 0, 0), 2))
  | .inr o_2 =>
   some (o_2)
noncomputable def rf04_Parse_e := entOf (P := Tryz.prog) (A := [.one (.row 9 [.str])]) (R := [.agg lGDirective, .one (.sc (.int .i64))]) Tryz.f149 rf04_Parse (fun k => ⟨[rf04_Right_e k, rf04_first_e k, rf04_numbers_e k, rf01_Parse_e k, rf04_made_e k], [], [hkStr Tryz.prog]⟩) [some ⟨0, [(0, .one (.ro [.str])), (2, .box 38 toGDirective), (4, .one (.sc (.int .i64)))], [(2, .box 38 toGDirective)], rf04_Parse_L0⟩, some ⟨2, [(0, .one (.ro [.str])), (2, .box 38 toGDirective), (4, .one (.sc (.int .i64))), (5, .one (.sc (.int .i64)))], [(0, .one (.ro [.str])), (2, .box 38 toGDirective), (4, .one (.sc (.int .i64)))], rf04_Parse_L1⟩, some ⟨4, [(0, .one (.ro [.str])), (2, .box 38 toGDirective), (4, .one (.sc (.int .i64))), (5, .one (.sc (.int .i64))), (8, .one (.own 3 [.int .i64])), (9, .one (.sc (.int .i64)))], [(2, .box 38 toGDirective), (4, .one (.sc (.int .i64))), (5, .one (.sc (.int .i64))), (8, .one (.own 3 [.int .i64]))], rf04_Parse_L2⟩] Tryz.func149 (by kernel_rfl) (by kernel_rfl) ⟨⟨fun _ => rfl, fun k x => by kernel_rfl⟩, ⟨⟨fun _ => rfl, fun k x => by kernel_rfl⟩, ⟨⟨fun _ => rfl, fun k x => by kernel_rfl⟩, trivial⟩⟩⟩ (fun k x => by kernel_rfl) fun _ _ => by kernel_rfl
def rf02_Lines_L0 : Nat → (ByteArray × (List ByteArray) × Int × Int) → Option ((ByteArray × (List ByteArray) × Int) ⊕ (List ByteArray))
  | 0, _ => none
  | k + 1, (s, out3, from4, i) =>
  bif decide (i < Int.ofNat (ByteArray.size s)) then
  bif decide (0 ≤ i) && decide (i < Int.ofNat (ByteArray.size s)) then
   bif decide (byteI s i = 10) then
    bif decide (0 ≤ from4) && decide (from4 ≤ i) && decide (i ≤ Int.ofNat (ByteArray.size s)) then
     bif decide ((List.length out3 + List.length [ByteArray.extract s (Int.toNat from4) (Int.toNat i)]) * 16 ≤ 140737488355328) then
      rf02_Lines_L0 k (s, out3 ++ [ByteArray.extract s (Int.toNat from4) (Int.toNat i)], w64 (i + 1), w64 (i + 1))
     else
      none
    else
     none
   else
    rf02_Lines_L0 k (s, out3, from4, w64 (i + 1))
  else
   none
 else
  some (Sum.inl (s, out3, from4))
def rf02_Lines (k : Nat) : ByteArray → Option (List ByteArray) := fun (s) =>
  (rf02_Lines_L0 k (s, [], 0, 0)).bind fun o_1 =>
  match o_1 with
  | .inl o_2 =>
   bif decide (o_2.2.2 < Int.ofNat (ByteArray.size o_2.1)) then
    bif decide (0 ≤ o_2.2.2) && decide (o_2.2.2 ≤ Int.ofNat (ByteArray.size o_2.1)) then
     bif decide ((List.length o_2.2.1 + List.length [ByteArray.extract o_2.1 (Int.toNat o_2.2.2) (ByteArray.size o_2.1)]) * 16 ≤ 140737488355328) then
      some (o_2.2.1 ++ [ByteArray.extract o_2.1 (Int.toNat o_2.2.2) (ByteArray.size o_2.1)])
     else
      none
    else
     none
   else
    some (o_2.2.1)
  | .inr o_2 =>
   some (o_2)
noncomputable def rf02_Lines_e := entOf (P := Tryz.prog) (A := [.one (.sc (.str))]) (R := [.one (.row 9 [.str])]) Tryz.f147 rf02_Lines (fun k => ⟨[], [], [hkStr Tryz.prog]⟩) [some ⟨0, [(0, .one (.sc (.str))), (3, .one (.own 9 [.str])), (4, .one (.sc (.int .i64))), (5, .one (.sc (.int .i64)))], [(0, .one (.sc (.str))), (3, .one (.own 9 [.str])), (4, .one (.sc (.int .i64)))], rf02_Lines_L0⟩] Tryz.func147 (by kernel_rfl) (by kernel_rfl) ⟨⟨fun _ => rfl, fun k x => by kernel_rfl⟩, trivial⟩ (fun k x => by kernel_rfl) fun _ _ => by kernel_rfl
def rf02_blank (k : Nat) : Int → Option (Bool) := fun (c0) =>
  bif decide (c0 = 32) then
  some (true)
 else
  bif decide (c0 = 9) then
   some (true)
  else
   bif decide (c0 = 13) then
    some (true)
   else
    some (false)
noncomputable def rf02_blank_e := entOf (P := Tryz.prog) (A := [.one (.sc (.int .u8))]) (R := [.one (.sc (.bool))]) Tryz.f192 rf02_blank (fun k => ⟨[], [], [hkStr Tryz.prog]⟩) [] Tryz.func192 (by kernel_rfl) (by kernel_rfl) trivial (fun k x => by kernel_rfl) fun _ _ => by kernel_rfl
def rf02_Words_L0 : Nat → (ByteArray × (List ByteArray) × ByteArray × Int) → Option (((List ByteArray) × ByteArray) ⊕ (List ByteArray))
  | 0, _ => none
  | k + 1, (s, out3, word, i) =>
  bif decide (i < Int.ofNat (ByteArray.size s)) then
  bif decide (0 ≤ i) && decide (i < Int.ofNat (ByteArray.size s)) then
   bif !decide (byteI s i = 35) then
    bif decide (0 ≤ i) && decide (i < Int.ofNat (ByteArray.size s)) then
     (rf02_blank k (byteI s i)).bind fun o_5 =>
      bif o_5 then
       bif !word.data.toList == (⟨#[]⟩ : ByteArray).data.toList then
        bif decide ((List.length out3 + List.length [word]) * 16 ≤ 140737488355328) then
         rf02_Words_L0 k (s, out3 ++ [word], (⟨#[]⟩ : ByteArray), w64 (i + 1))
        else
         none
       else
        rf02_Words_L0 k (s, out3, (⟨#[]⟩ : ByteArray), w64 (i + 1))
      else
       bif decide (0 ≤ i) && decide (i ≤ w64 (i + 1)) && decide (w64 (i + 1) ≤ Int.ofNat (ByteArray.size s)) then
        bif decide (ByteArray.size word + ByteArray.size (ByteArray.extract s (Int.toNat i) (Int.toNat (w64 (i + 1)))) ≤ 9223372036854775807) then
         rf02_Words_L0 k (s, out3, word ++ ByteArray.extract s (Int.toNat i) (Int.toNat (w64 (i + 1))), w64 (i + 1))
        else
         none
       else
        none
    else
     none
   else
    some (Sum.inl (out3, word))
  else
   none
 else
  some (Sum.inl (out3, word))
def rf02_Words (k : Nat) : ByteArray → Option (List ByteArray) := fun (s) =>
  (rf02_Words_L0 k (s, [], (⟨#[]⟩ : ByteArray), 0)).bind fun o_1 =>
  match o_1 with
  | .inl o_2 =>
   bif !o_2.2.data.toList == (⟨#[]⟩ : ByteArray).data.toList then
    bif decide ((List.length o_2.1 + List.length [o_2.2]) * 16 ≤ 140737488355328) then
     some (o_2.1 ++ [o_2.2])
    else
     none
   else
    some (o_2.1)
  | .inr o_2 =>
   some (o_2)
noncomputable def rf02_Words_e := entOf (P := Tryz.prog) (A := [.one (.sc (.str))]) (R := [.one (.row 9 [.str])]) Tryz.f148 rf02_Words (fun k => ⟨[rf02_blank_e k], [], [hkStr Tryz.prog]⟩) [some ⟨0, [(0, .one (.sc (.str))), (3, .one (.own 9 [.str])), (4, .one (.sc (.str))), (5, .one (.sc (.int .i64)))], [(3, .one (.own 9 [.str])), (4, .one (.sc (.str)))], rf02_Words_L0⟩] Tryz.func148 (by kernel_rfl) (by kernel_rfl) ⟨⟨fun _ => rfl, fun k x => by kernel_rfl⟩, trivial⟩ (fun k x => by kernel_rfl) fun _ _ => by kernel_rfl
def rf05_Parse_L0 : Nat → ((Int × Int) × (List ByteArray) × (List GDirective) × Int) → Option (((Int × Int) × (List GDirective)) ⊕ ((List GDirective) × (Int × Int)))
  | 0, _ => none
  | k + 1, (t3, l, out5, i) =>
  bif decide (i < Int.ofNat (List.length l)) then
  bif decide (0 ≤ i) then
   bif decide (i < Int.ofNat (List.length l)) then
    (rf02_Words k (List.getD l (Int.toNat i) (⟨#[]⟩ : ByteArray))).bind fun o_4 =>
     bif decide (Int.ofNat (List.length o_4) = 0) then
      rf05_Parse_L0 k (t3, l, out5, w64 (i + 1))
     else
      (rf04_Parse k o_4).bind fun o_6 =>
       bif !decide (o_6.2 = 0) then
        some (Sum.inr ([], w64 (i + 1), o_6.2))
       else
        bif decide ((List.length out5 + List.length [o_6.1]) * 104 ≤ 140737488355328) then
         rf05_Parse_L0 k (t3, l, out5 ++ [o_6.1], w64 (i + 1))
        else
         none
   else
    none
  else
   none
 else
  some (Sum.inl (t3, out5))
def rf05_Parse (k : Nat) : ByteArray → Option ((List GDirective) × (Int × Int)) := fun (s) =>
  (rf02_Lines k s).bind fun o_1 =>
  (rf05_Parse_L0 k ((0, 0), o_1, [], 0)).bind fun o_2 =>
   match o_2 with
   | .inl o_3 =>
    some ((o_3.2, 0, 0))
   | .inr o_3 =>
    some (o_3)
noncomputable def rf05_Parse_e := entOf (P := Tryz.prog) (A := [.one (.sc (.str))]) (R := [.one (.row 38 kGDirective), .agg [.sc (.int .i64), .sc (.int .i64)]]) Tryz.f91 rf05_Parse (fun k => ⟨[rf02_Lines_e k, rf02_Words_e k, rf04_Parse_e k], [], [hkStr Tryz.prog]⟩) [some ⟨0, [(3, .box 45 [.sc (.int .i64), .sc (.int .i64)]), (4, .one (.own 9 [.str])), (5, .one (.own 38 kGDirective)), (6, .one (.sc (.int .i64)))], [(3, .box 45 [.sc (.int .i64), .sc (.int .i64)]), (5, .one (.own 38 kGDirective))], rf05_Parse_L0⟩] Tryz.func91 (by kernel_rfl) (by kernel_rfl) ⟨⟨fun _ => rfl, fun k x => by kernel_rfl⟩, trivial⟩ (fun k x => by kernel_rfl) fun _ _ => by kernel_rfl
def rf05_Lines_L0 : Nat → ((List ByteArray) × (List Int) × Int) → Option ((List Int) ⊕ (List Int))
  | 0, _ => none
  | k + 1, (l, out4, i) =>
  bif decide (i < Int.ofNat (List.length l)) then
  bif decide (0 ≤ i) then
   bif decide (i < Int.ofNat (List.length l)) then
    (rf02_Words k (List.getD l (Int.toNat i) (⟨#[]⟩ : ByteArray))).bind fun o_4 =>
     bif decide (0 < Int.ofNat (List.length o_4)) then
      bif decide ((List.length out4 + List.length [w64 (i + 1)]) * 8 ≤ 140737488355328) then
       rf05_Lines_L0 k (l, out4 ++ [w64 (i + 1)], w64 (i + 1))
      else
       none
     else
      rf05_Lines_L0 k (l, out4, w64 (i + 1))
   else
    none
  else
   none
 else
  some (Sum.inl out4)
def rf05_Lines (k : Nat) : ByteArray → Option (List Int) := fun (s) =>
  (rf02_Lines k s).bind fun o_1 =>
  (rf05_Lines_L0 k (o_1, [], 0)).bind fun o_2 =>
   match o_2 with
   | .inl o_3 =>
    some (o_3)
   | .inr o_3 =>
    some (o_3)
noncomputable def rf05_Lines_e := entOf (P := Tryz.prog) (A := [.one (.sc (.str))]) (R := [.one (.row 3 [.int .i64])]) Tryz.f92 rf05_Lines (fun k => ⟨[rf02_Lines_e k, rf02_Words_e k], [], [hkStr Tryz.prog]⟩) [some ⟨0, [(3, .one (.own 9 [.str])), (4, .one (.own 3 [.int .i64])), (5, .one (.sc (.int .i64)))], [(4, .one (.own 3 [.int .i64]))], rf05_Lines_L0⟩] Tryz.func92 (by kernel_rfl) (by kernel_rfl) ⟨⟨fun _ => rfl, fun k x => by kernel_rfl⟩, trivial⟩ (fun k x => by kernel_rfl) fun _ _ => by kernel_rfl
end Ex
namespace Ex
open Go
set_option maxHeartbeats 0
abbrev GState := (List GContact) × (List GRange) × Int × Int × List GBooked
abbrev lGState : List LK := [.row 34 kGContact, .row 36 kGRange, .sc (.int .i64), .sc (.int .i64), .row 50 kGBooked]
abbrev toGState : List TL := [.own 34 kGContact, .own 36 kGRange, .sc (.int .i64), .sc (.int .i64), .own 50 kGBooked]
abbrev trGState : List TL := [.ro kGContact, .ro kGRange, .sc (.int .i64), .sc (.int .i64), .ro kGBooked]
abbrev kGState : List SK := [.row kGContact, .row kGRange, .int .i64, .int .i64, .row kGBooked]
def state_New (k : Nat) : Unit → Option (GState) := fun _ =>
  (plan_New k ()).bind fun o_1 =>
  some ((o_1.1, o_1.2.1, o_1.2.2.1, o_1.2.2.2, []))
noncomputable def state_New_e := entOf (P := Tryz.prog) (A := []) (R := [.agg lGState]) Tryz.f33 state_New (fun k => ⟨[plan_New_e k], [], [hkStr Tryz.prog]⟩) [] Tryz.func33 (by kernel_rfl) (by kernel_rfl) trivial (fun k x => by kernel_rfl) fun _ _ => by kernel_rfl
def state_copied (k : Nat) : GState → Option (GState) := fun (s) =>
  (plan_Copy k (s.1, s.2.1, s.2.2.1, s.2.2.2.1)).bind fun o_1 =>
  (ledger_Drop k (s.2.2.2.2, [])).bind fun o_2 =>
   some ((o_1.1, o_1.2.1, o_1.2.2.1, o_1.2.2.2, o_2))
noncomputable def state_copied_e := entOf (P := Tryz.prog) (A := [.agg lGState]) (R := [.agg lGState]) Tryz.f64 state_copied (fun k => ⟨[ledger_Drop_e k, plan_Copy_e k], [], [hkStr Tryz.prog]⟩) [] Tryz.func64 (by kernel_rfl) (by kernel_rfl) trivial (fun k x => by kernel_rfl) fun _ _ => by kernel_rfl
def slices_Max_int_int_L0 : Nat → ((List Int) × Int × Int) → Option ((Int) ⊕ (Int))
  | 0, _ => none
  | k + 1, (x0, m, i) =>
  bif decide (i < Int.ofNat (List.length x0)) then
  bif decide (0 ≤ i) then
   bif decide (i < Int.ofNat (List.length x0)) then
    slices_Max_int_int_L0 k (x0, mx m (List.getD x0 (Int.toNat i) 0), w64 (i + 1))
   else
    none
  else
   none
 else
  some (Sum.inl m)
def slices_Max_int_int (k : Nat) : (List Int) → Option (Int) := fun (x0) =>
  bif decide (Int.ofNat (List.length x0) < 1) then
  none
 else
  bif decide (0 < Int.ofNat (List.length x0)) then
   (slices_Max_int_int_L0 k (x0, List.getD x0 (Int.toNat 0) 0, 1)).bind fun o_3 =>
    match o_3 with
    | .inl o_4 =>
     some (o_4)
    | .inr o_4 =>
     some (o_4)
  else
   none
noncomputable def slices_Max_int_int_e := entOf (P := Tryz.prog) (A := [.one (.row 3 [.int .i64])]) (R := [.one (.sc (.int .i64))]) Tryz.f81 slices_Max_int_int (fun k => ⟨[], [], [hkStr Tryz.prog]⟩) [some ⟨0, [(0, .one (.ro [.int .i64])), (3, .one (.sc (.int .i64))), (4, .one (.sc (.int .i64)))], [(3, .one (.sc (.int .i64)))], slices_Max_int_int_L0⟩] Tryz.func81 (by kernel_rfl) (by kernel_rfl) ⟨⟨fun _ => rfl, fun k x => by kernel_rfl⟩, trivial⟩ (fun k x => by kernel_rfl) fun _ _ => by kernel_rfl
def state_over (k : Nat) : ((List GBooked) × GContact) → Option (Bool) := fun (l, c1) =>
  (ledger_Used k (l, c1.1)).bind fun o_1 =>
  (slices_Max_int_int k [o_1.1, o_1.2.1, o_1.2.2]).bind fun o_2 =>
   (check_Volume k c1).bind fun o_3 =>
    bif decide (o_3 < o_2) then
     some (true)
    else
     some (false)
noncomputable def state_over_e := entOf (P := Tryz.prog) (A := [.one (.row 50 kGBooked), .agg lGContact]) (R := [.one (.sc (.bool))]) Tryz.f39 state_over (fun k => ⟨[ledger_Used_e k, check_Volume_e k, slices_Max_int_int_e k], [], [hkAcut Tryz.prog, hkStr Tryz.prog]⟩) [] Tryz.func39 (by kernel_rfl) (by kernel_rfl) trivial (fun k x => by kernel_rfl) fun _ _ => by kernel_rfl
def state_Right_1 (k : Nat) : (GBooked × GState) → Option (Bool) := fun (b, t1) =>
  (contacts_Find k (t1.1, b.1)).bind fun o_1 =>
  bif o_1.2 then
   (state_over k (t1.2.2.2.2, o_1.1)).bind fun o_3 =>
    bif o_3 then
     some (true)
    else
     some (false)
  else
   some (true)
noncomputable def state_Right_1_e := entOf (P := Tryz.prog) (A := [.agg lGBooked, .one (.ptr [.row kGContact, .row kGRange, .int .i64, .int .i64, .row kGBooked])]) (R := [.one (.sc (.bool))]) Tryz.f38 state_Right_1 (fun k => ⟨[contacts_Find_e k, state_over_e k], [], [hkStr Tryz.prog]⟩) [] Tryz.func38 (by kernel_rfl) (by kernel_rfl) trivial (fun k x => by kernel_rfl) fun _ _ => by kernel_rfl
def IndexFuncB_sr_L0 : Nat → ((List GBooked) × GState × Int × Int) → Option ((Unit) ⊕ (Int))
  | 0, _ => none
  | k + 1, (s, f, t7, t8) =>
  bif decide (t8 < t7) then
  bif decide (0 ≤ t8) then
   bif decide (t8 < Int.ofNat (List.length s)) then
    (state_Right_1 k (List.getD s (Int.toNat t8) (0, 0, 0, 0), f)).bind fun o_4 =>
     bif o_4 then
      some (Sum.inr t8)
     else
      IndexFuncB_sr_L0 k (s, f, t7, w64 (t8 + 1))
   else
    none
  else
   none
 else
  some (Sum.inl ())
def IndexFuncB_sr (k : Nat) : ((List GBooked) × GState) → Option (Int) := fun (s, f) =>
  (IndexFuncB_sr_L0 k (s, f, Int.ofNat (List.length s), 0)).bind fun o_1 =>
  match o_1 with
  | .inl o_2 =>
   some (-1)
  | .inr o_2 =>
   some (o_2)
noncomputable def IndexFuncB_sr_e := entOf (P := Tryz.prog) (A := [.one (.row 50 kGBooked), .one (.fnc 38 [[.row kGContact, .row kGRange, .int .i64, .int .i64, .row kGBooked]])]) (R := [.one (.sc (.int .i64))]) Tryz.f82 IndexFuncB_sr (fun k => ⟨[state_Right_1_e k], [], [hkStr Tryz.prog]⟩) [some ⟨0, [(0, .one (.ro kGBooked)), (1, .fnp 38 [[.row kGContact, .row kGRange, .int .i64, .int .i64, .row kGBooked]]), (7, .one (.sc (.int .i64))), (8, .one (.sc (.int .i64)))], [], IndexFuncB_sr_L0⟩] Tryz.func82 (by kernel_rfl) (by kernel_rfl) ⟨⟨fun _ => rfl, fun k x => by kernel_rfl⟩, trivial⟩ (fun k x => by kernel_rfl) fun _ _ => by kernel_rfl
def ContainsFuncB_sr (k : Nat) : ((List GBooked) × GState) → Option (Bool) := fun (s, f) =>
  (IndexFuncB_sr k (s, f)).bind fun o_1 =>
  bif decide (0 ≤ o_1) then
   some (true)
  else
   some (false)
noncomputable def ContainsFuncB_sr_e := entOf (P := Tryz.prog) (A := [.one (.row 50 kGBooked), .one (.fnc 38 [[.row kGContact, .row kGRange, .int .i64, .int .i64, .row kGBooked]])]) (R := [.one (.sc (.bool))]) Tryz.f40 ContainsFuncB_sr (fun k => ⟨[state_Right_1_e k, IndexFuncB_dr_e k, IndexFuncB_sr_e k], [], [hkStr Tryz.prog]⟩) [] Tryz.func40 (by kernel_rfl) (by kernel_rfl) trivial (fun k x => by kernel_rfl) fun _ _ => by kernel_rfl
def state_Right (k : Nat) : GState → Option (Bool) := fun (s) =>
  (plan_Right k (s.1, s.2.1, s.2.2.1, s.2.2.2.1)).bind fun o_1 =>
  bif o_1 then
   (ledger_Right k s.2.2.2.2).bind fun o_3 =>
    bif o_3 then
     (ContainsFuncB_sr k (s.2.2.2.2, s)).bind fun o_5 =>
      bif o_5 then
       some (false)
      else
       some (true)
    else
     some (false)
  else
   some (false)
noncomputable def state_Right_e := entOf (P := Tryz.prog) (A := [.agg lGState]) (R := [.one (.sc (.bool))]) Tryz.f12 state_Right (fun k => ⟨[plan_Right_e k, ledger_Right_e k, ContainsFuncB_sr_e k], [], [hkStr Tryz.prog]⟩) [] Tryz.func12 (by kernel_rfl) (by kernel_rfl) trivial (fun k x => by kernel_rfl) fun _ _ => by kernel_rfl
def state_Edit (k : Nat) : (GState × GDirective) → Option (GState × Int) := fun (s, d) =>
  (plan_Apply k ((s.1, s.2.1, s.2.2.1, s.2.2.2.1), d)).bind fun o_1 =>
  bif !decide (o_1.2 = 0) then
   (state_copied k s).bind fun o_3 =>
    some ((o_3, o_1.2))
  else
   (ledger_Drop k (s.2.2.2.2, [])).bind fun o_3 =>
    bif d.1 == 2 && d.2.1 == 1 then
     (ledger_Drop k (s.2.2.2.2, [d.2.2.1])).bind fun o_5 =>
      some (((o_1.1.1, o_1.1.2.1, o_1.1.2.2.1, o_1.1.2.2.2, o_5), 0))
    else
     bif d.1 == 3 && d.2.1 == 1 then
      (contacts_Find k (o_1.1.1, d.2.2.1)).bind fun o_6 =>
       bif o_6.2 then
        (state_over k (s.2.2.2.2, o_6.1)).bind fun o_8 =>
         bif o_8 then
          (state_copied k s).bind fun o_10 =>
           some ((o_10, 8))
         else
          some (((o_1.1.1, o_1.1.2.1, o_1.1.2.2.1, o_1.1.2.2.2, o_3), 0))
       else
        (state_over k (s.2.2.2.2, o_6.1)).bind fun o_8 =>
         bif o_8 then
          (state_copied k s).bind fun o_10 =>
           some ((o_10, 8))
         else
          some (((o_1.1.1, o_1.1.2.1, o_1.1.2.2.1, o_1.1.2.2.2, o_3), 0))
     else
      some (((o_1.1.1, o_1.1.2.1, o_1.1.2.2.1, o_1.1.2.2.2, o_3), 0))
noncomputable def state_Edit_e := entOf (P := Tryz.prog) (A := [.agg lGState, .agg lGDirective]) (R := [.agg lGState, .one (.sc (.int .i64))]) Tryz.f27 state_Edit (fun k => ⟨[contacts_Find_e k, state_over_e k, state_copied_e k, plan_Apply_e k, ledger_Drop_e k], [], [hkStr Tryz.prog]⟩) [] Tryz.func27 (by kernel_rfl) (by kernel_rfl) trivial (fun k x => by kernel_rfl) fun _ _ => by kernel_rfl
def state_Load_L0 : Nat → (ByteArray × GState × GState × (Int × Int) × GState × (List GDirective) × Int × Int) → Option ((GState × (Int × Int) × GState) ⊕ (GState × (Int × Int)))
  | 0, _ => none
  | k + 1, (t, s, t4, t5, next, t25, t26, t27) =>
  bif decide (t27 < t26) then
  bif decide (0 ≤ t27) then
   bif decide (t27 < Int.ofNat (List.length t25)) then
    (state_Edit k (next, List.getD t25 (Int.toNat t27) (0, 0, 0, 0, 0, 0, 0, 0, 0, 0, 0, 0, 0))).bind fun o_4 =>
     bif !decide (o_4.2 = 0) then
      (state_copied k s).bind fun o_6 =>
       (text_Lines k t).bind fun o_7 =>
        bif decide (0 ≤ t27) then
         bif decide (t27 < Int.ofNat (List.length o_7)) then
          some (Sum.inr (o_6, List.getD o_7 (Int.toNat t27) 0, o_4.2))
         else
          none
        else
         none
     else
      state_Load_L0 k (t, s, t4, t5, o_4.1, t25, t26, w64 (t27 + 1))
   else
    none
  else
   none
 else
  some (Sum.inl (t4, t5, next))
def state_Load (k : Nat) : (GState × ByteArray) → Option (GState × (Int × Int)) := fun (s, t) =>
  (text_Parse k t).bind fun o_1 =>
  bif !decide (o_1.2.2 = 0) then
   (state_copied k s).bind fun o_3 =>
    some ((o_3, o_1.2))
  else
   (state_copied k s).bind fun o_3 =>
    (state_Load_L0 k (t, s, ([], [], 0, 0, []), (0, 0), o_3, o_1.1, Int.ofNat (List.length o_1.1), 0)).bind fun o_4 =>
     match o_4 with
     | .inl o_5 =>
      some ((o_5.2.2, 0, 0))
     | .inr o_5 =>
      some (o_5)
noncomputable def state_Load_e := entOf (P := Tryz.prog) (A := [.agg lGState, .one (.sc (.str))]) (R := [.agg lGState, .agg [.sc (.int .i64), .sc (.int .i64)]]) Tryz.f24 state_Load (fun k => ⟨[text_Parse_e k, text_Lines_e k, state_Edit_e k, state_copied_e k], [], [hkStr Tryz.prog]⟩) [some ⟨0, [(1, .one (.sc (.str))), (2, .box 28 trGState), (4, .box 28 toGState), (5, .box 45 [.sc (.int .i64), .sc (.int .i64)]), (8, .box 28 toGState), (25, .one (.own 38 kGDirective)), (26, .one (.sc (.int .i64))), (27, .one (.sc (.int .i64)))], [(4, .box 28 toGState), (5, .box 45 [.sc (.int .i64), .sc (.int .i64)]), (8, .box 28 toGState)], state_Load_L0⟩] Tryz.func24 (by kernel_rfl) (by kernel_rfl) ⟨⟨fun _ => rfl, fun k x => by kernel_rfl⟩, trivial⟩ (fun k x => by kernel_rfl) fun _ _ => by kernel_rfl
def state_Advance (k : Nat) : (GState × Int) → Option (GState × Int) := fun (s, now) =>
  (plan_Advance k ((s.1, s.2.1, s.2.2.1, s.2.2.2.1), now)).bind fun o_1 =>
  bif !decide (o_1.2.2 = 0) then
   (state_copied k s).bind fun o_3 =>
    some ((o_3, o_1.2.2))
  else
   (ledger_Drop k (s.2.2.2.2, o_1.2.1)).bind fun o_3 =>
    some (((o_1.1.1, o_1.1.2.1, o_1.1.2.2.1, o_1.1.2.2.2, o_3), 0))
noncomputable def state_Advance_e := entOf (P := Tryz.prog) (A := [.agg lGState, .one (.sc (.int .i64))]) (R := [.agg lGState, .one (.sc (.int .i64))]) Tryz.f30 state_Advance (fun k => ⟨[state_copied_e k, ledger_Drop_e k, plan_Advance_e k], [], [hkStr Tryz.prog]⟩) [] Tryz.func30 (by kernel_rfl) (by kernel_rfl) trivial (fun k x => by kernel_rfl) fun _ _ => by kernel_rfl
def state_asked_1 (k : Nat) : (Int × GState) → Option (Bool) := fun (id, t1) =>
  (contacts_Find k (t1.1, id)).bind fun o_1 =>
  bif o_1.2 then
   some (false)
  else
   some (true)
noncomputable def state_asked_1_e := entOf (P := Tryz.prog) (A := [.one (.sc (.int .i64)), .one (.ptr [.row kGContact, .row kGRange, .int .i64, .int .i64, .row kGBooked])]) (R := [.one (.sc (.bool))]) Tryz.f97 state_asked_1 (fun k => ⟨[contacts_Find_e k], [], [hkStr Tryz.prog]⟩) [] Tryz.func97 (by kernel_rfl) (by kernel_rfl) trivial (fun k x => by kernel_rfl) fun _ _ => by kernel_rfl
def IndexFuncI_as_L0 : Nat → ((List Int) × GState × Int × Int) → Option ((Unit) ⊕ (Int))
  | 0, _ => none
  | k + 1, (s, f, t7, t8) =>
  bif decide (t8 < t7) then
  bif decide (0 ≤ t8) then
   bif decide (t8 < Int.ofNat (List.length s)) then
    (state_asked_1 k (List.getD s (Int.toNat t8) 0, f)).bind fun o_4 =>
     bif o_4 then
      some (Sum.inr t8)
     else
      IndexFuncI_as_L0 k (s, f, t7, w64 (t8 + 1))
   else
    none
  else
   none
 else
  some (Sum.inl ())
def IndexFuncI_as (k : Nat) : ((List Int) × GState) → Option (Int) := fun (s, f) =>
  (IndexFuncI_as_L0 k (s, f, Int.ofNat (List.length s), 0)).bind fun o_1 =>
  match o_1 with
  | .inl o_2 =>
   some (-1)
  | .inr o_2 =>
   some (o_2)
noncomputable def IndexFuncI_as_e := entOf (P := Tryz.prog) (A := [.one (.row 3 [.int .i64]), .one (.fnc 97 [[.row kGContact, .row kGRange, .int .i64, .int .i64, .row kGBooked]])]) (R := [.one (.sc (.int .i64))]) Tryz.f155 IndexFuncI_as (fun k => ⟨[state_asked_1_e k], [], [hkStr Tryz.prog]⟩) [some ⟨0, [(0, .one (.ro [.int .i64])), (1, .fnp 97 [[.row kGContact, .row kGRange, .int .i64, .int .i64, .row kGBooked]]), (7, .one (.sc (.int .i64))), (8, .one (.sc (.int .i64)))], [], IndexFuncI_as_L0⟩] Tryz.func155 (by kernel_rfl) (by kernel_rfl) ⟨⟨fun _ => rfl, fun k x => by kernel_rfl⟩, trivial⟩ (fun k x => by kernel_rfl) fun _ _ => by kernel_rfl
def ContainsFuncI_as (k : Nat) : ((List Int) × GState) → Option (Bool) := fun (s, f) =>
  (IndexFuncI_as k (s, f)).bind fun o_1 =>
  bif decide (0 ≤ o_1) then
   some (true)
  else
   some (false)
noncomputable def ContainsFuncI_as_e := entOf (P := Tryz.prog) (A := [.one (.row 3 [.int .i64]), .one (.fnc 97 [[.row kGContact, .row kGRange, .int .i64, .int .i64, .row kGBooked]])]) (R := [.one (.sc (.bool))]) Tryz.f98 ContainsFuncI_as (fun k => ⟨[state_asked_1_e k, IndexFuncI_as_e k], [], [hkStr Tryz.prog]⟩) [] Tryz.func98 (by kernel_rfl) (by kernel_rfl) trivial (fun k x => by kernel_rfl) fun _ _ => by kernel_rfl
def state_asked_L0 : Nat → ((List Int) × Int × Int × GState × (List Int) × (List Int) × Int × Int) → Option (((List Int) × Int × Int × GState × (List Int)) ⊕ (Int))
  | 0, _ => none
  | k + 1, (ids, class2, size, s, had, t14, t15, t16) =>
  bif decide (t16 < t15) then
  bif decide (0 ≤ t16) then
   bif decide (t16 < Int.ofNat (List.length t14)) then
    state_asked_L0 k (ids, class2, size, s, putN (List.getD t14 (Int.toNat t16) 0) had, t14, t15, w64 (t16 + 1))
   else
    none
  else
   none
 else
  some (Sum.inl (ids, class2, size, s, had))
def state_asked (k : Nat) : (GState × (List Int) × Int × Int) → Option (Int) := fun (s, ids, class2, size) =>
  (state_asked_L0 k (ids, class2, size, s, [], ids, Int.ofNat (List.length ids), 0)).bind fun o_1 =>
  match o_1 with
  | .inl o_2 =>
   bif decide (Int.ofNat (List.length o_2.1) = 0) then
    some (1)
   else
    bif decide (Int.ofNat (List.length o_2.2.2.2.2) < Int.ofNat (List.length o_2.1)) then
     some (1)
    else
     bif decide (o_2.2.1 < 0) then
      some (1)
     else
      bif decide (3 ≤ o_2.2.1) then
       some (1)
      else
       bif decide (o_2.2.2.1 < 0) then
        some (1)
       else
        bif decide (1099511627775 < o_2.2.2.1) then
         some (1)
        else
         (ContainsFuncI_as k (o_2.1, o_2.2.2.2.1)).bind fun o_9 =>
          bif o_9 then
           some (6)
          else
           some (0)
  | .inr o_2 =>
   some (o_2)
noncomputable def state_asked_e := entOf (P := Tryz.prog) (A := [.agg lGState, .one (.row 3 [.int .i64]), .one (.sc (.int .i64)), .one (.sc (.int .i64))]) (R := [.one (.sc (.int .i64))]) Tryz.f54 state_asked (fun k => ⟨[ContainsFuncI_as_e k], [], [hkMlen Tryz.prog, hkStr Tryz.prog]⟩) [some ⟨0, [(1, .one (.ro [.int .i64])), (2, .one (.sc (.int .i64))), (3, .one (.sc (.int .i64))), (4, .box 28 trGState), (9, .mset), (14, .one (.ro [.int .i64])), (15, .one (.sc (.int .i64))), (16, .one (.sc (.int .i64)))], [(1, .one (.ro [.int .i64])), (2, .one (.sc (.int .i64))), (3, .one (.sc (.int .i64))), (4, .box 28 trGState), (9, .mset)], state_asked_L0⟩] Tryz.func54 (by kernel_rfl) (by kernel_rfl) ⟨⟨fun _ => rfl, fun k x => by kernel_rfl⟩, trivial⟩ (fun k x => by kernel_rfl) fun _ _ => by kernel_rfl
def state_Book_1 (k : Nat) : ((List GBooked) × Int × GState × Int × Int) → Option ((List GBooked) × Bool) := fun (l, id, t2, t3, t4) =>
  (contacts_Find k (t2.1, id)).bind fun o_1 =>
  bif o_1.2 then
   (ledger_Book k (l, o_1.1, t3, t4)).bind fun o_3 =>
    bif o_3.2 then
     some ((o_3.1, true))
    else
     some ((o_3.1, false))
  else
   (ledger_Book k (l, o_1.1, t3, t4)).bind fun o_3 =>
    bif o_3.2 then
     some ((o_3.1, true))
    else
     some ((o_3.1, false))
noncomputable def state_Book_1_e := entOf (P := Tryz.prog) (A := [.one (.row 50 kGBooked), .one (.sc (.int .i64)), .one (.ptr [.row kGContact, .row kGRange, .int .i64, .int .i64, .row kGBooked]), .one (.ptr [.int .i64]), .one (.ptr [.int .i64])]) (R := [.one (.row 50 kGBooked), .one (.sc (.bool))]) Tryz.f55 state_Book_1 (fun k => ⟨[contacts_Find_e k, ledger_Book_e k], [], [hkStr Tryz.prog]⟩) [] Tryz.func55 (by kernel_rfl) (by kernel_rfl) trivial (fun k x => by kernel_rfl) fun _ _ => by kernel_rfl
def state_Release_1 (k : Nat) : ((List GBooked) × Int × Int × Int) → Option ((List GBooked) × Bool) := fun (l, id, t2, t3) =>
  (ledger_Release k (l, id, t2, t3)).bind fun o_1 =>
  bif o_1.2 then
   some ((o_1.1, true))
  else
   some ((o_1.1, false))
noncomputable def state_Release_1_e := entOf (P := Tryz.prog) (A := [.one (.row 50 kGBooked), .one (.sc (.int .i64)), .one (.ptr [.int .i64]), .one (.ptr [.int .i64])]) (R := [.one (.row 50 kGBooked), .one (.sc (.bool))]) Tryz.f61 state_Release_1 (fun k => ⟨[ledger_Release_e k], [], [hkStr Tryz.prog]⟩) [] Tryz.func61 (by kernel_rfl) (by kernel_rfl) trivial (fun k x => by kernel_rfl) fun _ _ => by kernel_rfl
def state_each_bk_L0 : Nat → ((GState × Int × Int) × GState × GState × GState × (List Int) × Int × Int) → Option ((GState × GState) ⊕ (GState × Int))
  | 0, _ => none
  | k + 1, (do3, s, t8, next, t21, t22, t23) =>
  bif decide (t23 < t22) then
  bif decide (0 ≤ t23) then
   bif decide (t23 < Int.ofNat (List.length t21)) then
    (state_Book_1 k (next.2.2.2.2, List.getD t21 (Int.toNat t23) 0, do3)).bind fun o_4 =>
     bif o_4.2 then
      state_each_bk_L0 k (do3, s, t8, (next.1, next.2.1, next.2.2.1, next.2.2.2.1, o_4.1), t21, t22, w64 (t23 + 1))
     else
      (state_copied k s).bind fun o_6 =>
       some (Sum.inr (o_6, 8))
   else
    none
  else
   none
 else
  some (Sum.inl (t8, next))
def state_each_bk (k : Nat) : (GState × (List Int) × Int × (GState × Int × Int)) → Option (GState × Int) := fun (s, ids, err, do3) =>
  (state_copied k s).bind fun o_1 =>
  bif !decide (err = 0) then
   some ((o_1, err))
  else
   (state_each_bk_L0 k (do3, s, ([], [], 0, 0, []), o_1, ids, Int.ofNat (List.length ids), 0)).bind fun o_3 =>
    match o_3 with
    | .inl o_4 =>
     some ((o_4.2, 0))
    | .inr o_4 =>
     some (o_4)
noncomputable def state_each_bk_e := entOf (P := Tryz.prog) (A := [.agg lGState, .one (.row 3 [.int .i64]), .one (.sc (.int .i64)), .one (.fnc 55 [[.row kGContact, .row kGRange, .int .i64, .int .i64, .row kGBooked], [.int .i64], [.int .i64]])]) (R := [.agg lGState, .one (.sc (.int .i64))]) Tryz.f53 state_each_bk (fun k => ⟨[state_Book_1_e k, state_copied_e k], [], [hkStr Tryz.prog]⟩) [some ⟨0, [(3, .fnp 55 [[.row kGContact, .row kGRange, .int .i64, .int .i64, .row kGBooked], [.int .i64], [.int .i64]]), (4, .box 28 trGState), (8, .box 28 toGState), (10, .box 28 toGState), (21, .one (.ro [.int .i64])), (22, .one (.sc (.int .i64))), (23, .one (.sc (.int .i64)))], [(8, .box 28 toGState), (10, .box 28 toGState)], state_each_bk_L0⟩] Tryz.func53 (by kernel_rfl) (by kernel_rfl) ⟨⟨fun _ => rfl, fun k x => by kernel_rfl⟩, trivial⟩ (fun k x => by kernel_rfl) fun _ _ => by kernel_rfl
def state_each_rl_L0 : Nat → ((Int × Int) × GState × GState × GState × (List Int) × Int × Int) → Option ((GState × GState) ⊕ (GState × Int))
  | 0, _ => none
  | k + 1, (do3, s, t8, next, t21, t22, t23) =>
  bif decide (t23 < t22) then
  bif decide (0 ≤ t23) then
   bif decide (t23 < Int.ofNat (List.length t21)) then
    (state_Release_1 k (next.2.2.2.2, List.getD t21 (Int.toNat t23) 0, do3)).bind fun o_4 =>
     bif o_4.2 then
      state_each_rl_L0 k (do3, s, t8, (next.1, next.2.1, next.2.2.1, next.2.2.2.1, o_4.1), t21, t22, w64 (t23 + 1))
     else
      (state_copied k s).bind fun o_6 =>
       some (Sum.inr (o_6, 8))
   else
    none
  else
   none
 else
  some (Sum.inl (t8, next))
def state_each_rl (k : Nat) : (GState × (List Int) × Int × (Int × Int)) → Option (GState × Int) := fun (s, ids, err, do3) =>
  (state_copied k s).bind fun o_1 =>
  bif !decide (err = 0) then
   some ((o_1, err))
  else
   (state_each_rl_L0 k (do3, s, ([], [], 0, 0, []), o_1, ids, Int.ofNat (List.length ids), 0)).bind fun o_3 =>
    match o_3 with
    | .inl o_4 =>
     some ((o_4.2, 0))
    | .inr o_4 =>
     some (o_4)
noncomputable def state_each_rl_e := entOf (P := Tryz.prog) (A := [.agg lGState, .one (.row 3 [.int .i64]), .one (.sc (.int .i64)), .one (.fnc 61 [[.int .i64], [.int .i64]])]) (R := [.agg lGState, .one (.sc (.int .i64))]) Tryz.f53 state_each_rl (fun k => ⟨[state_Release_1_e k, state_copied_e k], [], [hkStr Tryz.prog]⟩) [some ⟨0, [(3, .fnp 61 [[.int .i64], [.int .i64]]), (4, .box 28 trGState), (8, .box 28 toGState), (10, .box 28 toGState), (21, .one (.ro [.int .i64])), (22, .one (.sc (.int .i64))), (23, .one (.sc (.int .i64)))], [(8, .box 28 toGState), (10, .box 28 toGState)], state_each_rl_L0⟩] Tryz.func53 (by kernel_rfl) (by kernel_rfl) ⟨⟨fun _ => rfl, fun k x => by kernel_rfl⟩, trivial⟩ (fun k x => by kernel_rfl) fun _ _ => by kernel_rfl
def state_Book (k : Nat) : (GState × (List Int) × Int × Int) → Option (GState × Int) := fun (s, ids, class2, size) =>
  (state_asked k (s, ids, class2, size)).bind fun o_1 =>
  (state_each_bk k (s, ids, o_1, s, class2, size)).bind fun o_2 =>
   some (o_2)
noncomputable def state_Book_e := entOf (P := Tryz.prog) (A := [.agg lGState, .one (.row 3 [.int .i64]), .one (.sc (.int .i64)), .one (.sc (.int .i64))]) (R := [.agg lGState, .one (.sc (.int .i64))]) Tryz.f19 state_Book (fun k => ⟨[state_each_bk_e k, state_each_rl_e k, state_asked_e k], [], [hkStr Tryz.prog]⟩) [] Tryz.func19 (by kernel_rfl) (by kernel_rfl) trivial (fun k x => by kernel_rfl) fun _ _ => by kernel_rfl
def state_Release (k : Nat) : (GState × (List Int) × Int × Int) → Option (GState × Int) := fun (s, ids, class2, size) =>
  (state_asked k (s, ids, class2, size)).bind fun o_1 =>
  (state_each_rl k (s, ids, o_1, class2, size)).bind fun o_2 =>
   some (o_2)
noncomputable def state_Release_e := entOf (P := Tryz.prog) (A := [.agg lGState, .one (.row 3 [.int .i64]), .one (.sc (.int .i64)), .one (.sc (.int .i64))]) (R := [.agg lGState, .one (.sc (.int .i64))]) Tryz.f22 state_Release (fun k => ⟨[state_each_bk_e k, state_each_rl_e k, state_asked_e k], [], [hkStr Tryz.prog]⟩) [] Tryz.func22 (by kernel_rfl) (by kernel_rfl) trivial (fun k x => by kernel_rfl) fun _ _ => by kernel_rfl
def state_Same (k : Nat) : (GState × GState) → Option (Bool) := fun (a, b) =>
  (plan_Same k ((a.1, a.2.1, a.2.2.1, a.2.2.2.1), b.1, b.2.1, b.2.2.1, b.2.2.2.1)).bind fun o_1 =>
  bif o_1 then
   (ledger_Same k (a.2.2.2.2, b.2.2.2.2)).bind fun o_3 =>
    bif o_3 then
     some (true)
    else
     some (false)
  else
   some (false)
noncomputable def state_Same_e := entOf (P := Tryz.prog) (A := [.agg lGState, .agg lGState]) (R := [.one (.sc (.bool))]) Tryz.f14 state_Same (fun k => ⟨[plan_Same_e k, ledger_Same_e k], [], [hkStr Tryz.prog]⟩) [] Tryz.func14 (by kernel_rfl) (by kernel_rfl) trivial (fun k x => by kernel_rfl) fun _ _ => by kernel_rfl
end Ex
namespace Ex
open Go
set_option maxHeartbeats 0
abbrev GFeluccalaw21Act := Int × Int × Int × Int × Int × Int × Int × Int × Int × Int × Int × Int × Int × Int × ByteArray × Int × (List Int) × Int × Int
abbrev lGFeluccalaw21Act : List LK := [.sc (.int .i64), .sc (.int .i64), .sc (.int .i64), .sc (.int .i64), .sc (.int .i64), .sc (.int .i64), .sc (.int .i64), .sc (.int .i64), .sc (.int .i64), .sc (.int .i64), .sc (.int .i64), .sc (.int .i64), .sc (.int .i64), .sc (.int .i64), .sc (.str), .sc (.int .i64), .row 3 [.int .i64], .sc (.int .i64), .sc (.int .i64)]
abbrev kGFeluccalaw21Act : List SK := [.int .i64, .int .i64, .int .i64, .int .i64, .int .i64, .int .i64, .int .i64, .int .i64, .int .i64, .int .i64, .int .i64, .int .i64, .int .i64, .int .i64, .str, .int .i64, .row [.int .i64], .int .i64, .int .i64]
def feluccalaw08_Few (k : Nat) : GPlan → Option (Bool) := fun (p) =>
  bif decide (Int.ofNat (List.length p.1) ≤ 50) then
  bif decide (Int.ofNat (List.length p.2.1) ≤ 50) then
   some (true)
  else
   some (false)
 else
  some (false)
noncomputable def feluccalaw08_Few_e := entOf (P := Tryz.prog) (A := [.agg lGPlan]) (R := [.one (.sc (.bool))]) Tryz.f35 feluccalaw08_Few (fun k => ⟨[], [], [hkStr Tryz.prog]⟩) [] Tryz.func35 (by kernel_rfl) (by kernel_rfl) trivial (fun k x => by kernel_rfl) fun _ _ => by kernel_rfl
def feluccalaw21_Few (k : Nat) : GState → Option (Bool) := fun (s) =>
  (feluccalaw08_Few k (s.1, s.2.1, s.2.2.1, s.2.2.2.1)).bind fun o_1 =>
  bif o_1 then
   bif decide (Int.ofNat (List.length s.2.2.2.2) ≤ 50) then
    some (true)
   else
    some (false)
  else
   some (false)
noncomputable def feluccalaw21_Few_e := entOf (P := Tryz.prog) (A := [.agg lGState]) (R := [.one (.sc (.bool))]) Tryz.f11 feluccalaw21_Few (fun k => ⟨[feluccalaw08_Few_e k], [], [hkStr Tryz.prog]⟩) [] Tryz.func11 (by kernel_rfl) (by kernel_rfl) trivial (fun k x => by kernel_rfl) fun _ _ => by kernel_rfl
noncomputable def feluccalaw21_small_c : Code := Tryz.f10.body.getD .skip
def feluccalaw21_small (_k : Nat) : Unit → Option (Bool) := fun _ => some true
noncomputable def feluccalaw21_small_X : Cx Tryz.prog [.one (.sc (.bool))] := ⟨fun k => ⟨[state_Right_e k, state_Same_e k, state_Book_e k, state_Release_e k, state_Load_e k, state_Edit_e k, state_Advance_e k, state_New_e k, rf09_Same_e k], [], [hkStr Tryz.prog]⟩, Tryz.f10.ntmps, Tryz.f10.results, []⟩
theorem feluccalaw21_small_eq (x : Unit) : feluccalaw21_small 0 x = runF feluccalaw21_small_X 100 feluccalaw21_small_c [] x := by kernel_rfl
noncomputable def feluccalaw21_small_e (k : Nat) : Ent Tryz.prog := ⟨10, [], [.one (.sc (.bool))], feluccalaw21_small k, calls_of (X := feluccalaw21_small_X) (k := 100) (c := feluccalaw21_small_c) Tryz.func10 (by kernel_rfl) (by kernel_rfl) (by kernel_rfl) (LoopEqs.all (show LoopEqs feluccalaw21_small_X feluccalaw21_small_c feluccalaw21_small_X.L 0 from trivial)) (fun x => feluccalaw21_small_eq x), fun _ _ => by kernel_rfl⟩
def feluccalaw21_done (k : Nat) : (GState × GFeluccalaw21Act) → Option (GState × (Int × Int)) := fun (s, a) =>
  bif decide (a.1 = 1) then
  (state_Edit k (s, a.2.1, a.2.2.1, a.2.2.2.1, a.2.2.2.2.1, a.2.2.2.2.2.1, a.2.2.2.2.2.2.1, a.2.2.2.2.2.2.2.1, a.2.2.2.2.2.2.2.2.1, a.2.2.2.2.2.2.2.2.2.1, a.2.2.2.2.2.2.2.2.2.2.1, a.2.2.2.2.2.2.2.2.2.2.2.1, a.2.2.2.2.2.2.2.2.2.2.2.2.1, a.2.2.2.2.2.2.2.2.2.2.2.2.2.1)).bind fun o_2 =>
   some ((o_2.1, 0, o_2.2))
 else
  bif decide (a.1 = 2) then
   (state_Load k (s, a.2.2.2.2.2.2.2.2.2.2.2.2.2.2.1)).bind fun o_3 =>
    some (o_3)
  else
   bif decide (a.1 = 3) then
    (state_Advance k (s, a.2.2.2.2.2.2.2.2.2.2.2.2.2.2.2.1)).bind fun o_4 =>
     some ((o_4.1, 0, o_4.2))
   else
    bif decide (a.1 = 4) then
     (state_Book k (s, a.2.2.2.2.2.2.2.2.2.2.2.2.2.2.2.2)).bind fun o_5 =>
      some ((o_5.1, 0, o_5.2))
    else
     (state_Release k (s, a.2.2.2.2.2.2.2.2.2.2.2.2.2.2.2.2)).bind fun o_5 =>
      some ((o_5.1, 0, o_5.2))
noncomputable def feluccalaw21_done_e := entOf (P := Tryz.prog) (A := [.agg lGState, .agg lGFeluccalaw21Act]) (R := [.agg lGState, .agg [.sc (.int .i64), .sc (.int .i64)]]) Tryz.f17 feluccalaw21_done (fun k => ⟨[state_Book_e k, state_Release_e k, state_Load_e k, state_Edit_e k, state_Advance_e k], [], [hkStr Tryz.prog]⟩) [] Tryz.func17 (by kernel_rfl) (by kernel_rfl) trivial (fun k x => by kernel_rfl) fun _ _ => by kernel_rfl
end Ex
namespace Ex
open Go
noncomputable instance : DecidableEq GPlan := fun _ _ => Classical.propDecidable _
noncomputable instance : DecidableEq GState := fun _ _ => Classical.propDecidable _
abbrev zS : GState := ([], [], 0, 0, [])
def pl (s : GState) : GPlan := (s.1, s.2.1, s.2.2.1, s.2.2.2.1)
abbrev bk (s : GState) : List GBooked := s.2.2.2.2
def stS (p : GPlan) (b : List GBooked) : GState := (p.1, p.2.1, p.2.2.1, p.2.2.2, b)
theorem mk_pl (s : GState) : stS (pl s) (bk s) = s := rfl
def withinU (u : T48) (c : GContact) : Prop := u.1 ≤ volC c ∧ u.2.1 ≤ volC c ∧ u.2.2 ≤ volC c
def Covers (cs : List GContact) (l : List GBooked) : Prop := ∀ id, usedL l id ≠ z3 → (findC cs id).2 = true ∧ withinU (usedL l id) (findC cs id).1
def RightS (s : GState) : Prop := RightP (pl s) ∧ RightL (bk s) ∧ Covers s.1 (bk s)
theorem RightS.t {s : GState} (h : RightS s) : RightT s.1 := h.1.2.2.2.2.1.1
theorem RightS.len {s : GState} (h : RightS s) : s.1.length ≤ 4096 ∧ s.2.1.length ≤ 4096 ∧ (bk s).length ≤ 4096 := by
  have h1 : s.1.length ≤ 4096 := h.1.2.2.2.2.1.2
  have h2 : s.2.1.length ≤ 4096 := h.1.2.2.2.2.2.2
  have h3 := right_len (l := bk s) (cs := s.1) h.2.1.2 (fun b hb => by
    have e := usedL_mem h.2.1.2 hb
    have h4 := h.2.2 b.1 (by rw [e]; exact (h.2.1.1 b hb).2.1)
    have h5 := findC_some h4.1
    exact ⟨_, h5.1, h5.2⟩)
  omega
theorem copied_spec (s : GState) (k : Nat) (h1 : s.1.length ≤ 5000) (h2 : s.2.1.length ≤ 5000) (h3 : (bk s).length ≤ 5000) (hk : 20000 < k) : state_copied k s = some s := by
  unfold state_copied
  have e1 : plan_Copy k (s.1, s.2.1, s.2.2.1, s.2.2.2.1) = some (s.1, s.2.1, s.2.2.1, s.2.2.2.1) := Copy_spec _ k (by show s.1.length ≤ _; omega) (by show s.2.1.length ≤ _; omega)
  have e2 : ledger_Drop k (s.2.2.2.2, []) = some (dropL (bk s) []) := Drop_spec (bk s) [] k (by omega) (by simp) (by simp only [List.length_nil]; omega)
  rw [drop_nil] at e2
  simp only [e1, e2, Option.bind_some]
theorem RightS.copied {s : GState} (h : RightS s) (k : Nat) (hk : 20000 < k) : state_copied k s = some s := by
  have := h.len
  exact copied_spec s k (by omega) (by omega) (by omega) hk
def withB (u : T48) (c : GContact) : Bool := decide (u.1 ≤ volC c) && (decide (u.2.1 ≤ volC c) && decide (u.2.2 ≤ volC c))
theorem withB_iff (u : T48) (c : GContact) : withB u c = true ↔ withinU u c := by
  unfold withB withinU
  simp
theorem Max_spec (a b c : Int) (k : Nat) (hk : 5 ≤ k) : slices_Max_int_int k [a, b, c] = some (max (max a b) c) := by
  obtain ⟨k, rfl⟩ : ∃ m, k = m + 5 := ⟨k - 5, by omega⟩
  have s3 : ∀ m : Int, slices_Max_int_int_L0 (k + 3) ([a, b, c], m, 3) = some (.inl m) := fun m => rfl
  have s2 : ∀ m : Int, slices_Max_int_int_L0 (k + 4) ([a, b, c], m, 2) = some (.inl (mx m c)) := fun m => by rw [← s3]; rfl
  have s1 : ∀ m : Int, slices_Max_int_int_L0 (k + 5) ([a, b, c], m, 1) = some (.inl (mx (mx m b) c)) := fun m => by rw [← s2]; rfl
  have e : slices_Max_int_int (k + 5) [a, b, c] = some (mx (mx a b) c) := by
    unfold slices_Max_int_int
    have := s1 a
    simp only [show List.getD [a, b, c] (Int.toNat 0) 0 = a from rfl, this, Option.bind_some]
    rfl
  rw [e]
  have : ∀ x y : Int, mx x y = max x y := fun x y => by unfold mx; omega
  rw [this, this]
theorem over_spec (l : List GBooked) (c : GContact) (k : Nat) (hs : l.length ≤ 1000000000) (hl : SortL l) (hr : rngC c) (hk : l.length + 5 < k) : state_over k (l, c) = some (!withB (usedL l c.1) c) := by
  unfold state_over
  simp only [Used_spec l c.1 k hs hl (by omega), Max_spec _ _ _ k (by omega), Volume_spec k c hr, Option.bind_some]
  unfold withB
  by_cases h : volC c < max (max (usedL l c.1).1 (usedL l c.1).2.1) (usedL l c.1).2.2
  · rw [dcT h]
    have : ¬ ((usedL l c.1).1 ≤ volC c ∧ (usedL l c.1).2.1 ≤ volC c ∧ (usedL l c.1).2.2 ≤ volC c) := by omega
    have : (decide ((usedL l c.1).1 ≤ volC c) && (decide ((usedL l c.1).2.1 ≤ volC c) && decide ((usedL l c.1).2.2 ≤ volC c))) = false := by
      rw [Bool.eq_false_iff]
      simpa using this
    rw [this]; rfl
  · rw [dcF h]
    have : (decide ((usedL l c.1).1 ≤ volC c) && (decide ((usedL l c.1).2.1 ≤ volC c) && decide ((usedL l c.1).2.2 ≤ volC c))) = true := by
      simp only [Bool.and_eq_true, decide_eq_true_eq]
      omega
    rw [this]; rfl
def badB (s : GState) (b : GBooked) : Bool := !((findC s.1 b.1).2 && withB (usedL (bk s) b.1) (findC s.1 b.1).1)
theorem findC_id {cs : List GContact} {id : Int} (h : (findC cs id).2 = true) : (findC cs id).1.1 = id := (findC_some h).2
theorem zero_rng : rngC z28 := by unfold rngC; constructor <;> constructor <;> decide
theorem find_rng {cs : List GContact} (h : ∀ c ∈ cs, rngC c) (id : Int) : rngC (findC cs id).1 := by
  cases hf : (findC cs id).2 with
  | true => exact h _ (findC_some hf).1
  | false => rw [(findC_false hf).1]; exact zero_rng
theorem Right1_spec (s : GState) (b : GBooked) (k : Nat) (h1 : s.1.length ≤ 5000) (h3 : (bk s).length ≤ 5000) (hl : SortL (bk s)) (hr : ∀ c ∈ s.1, rngC c) (hk : 20000 < k) : state_Right_1 k (b, s) = some (badB s b) := by
  unfold state_Right_1 badB
  simp only [contacts_Find_spec s.1 b.1 k (by omega) (by omega), over_spec (bk s) _ k (by omega) hl (find_rng hr b.1) (by omega), Option.bind_some]
  cases hf : (findC s.1 b.1).2 with
  | false => rfl
  | true =>
    rw [findC_id hf]
    cases withB (usedL (bk s) b.1) (findC s.1 b.1).1 <;> rfl
theorem sr_L0 (s : GState) (h1 : s.1.length ≤ 5000) (h3 : (bk s).length ≤ 5000) (hl : SortL (bk s)) (hr : ∀ c ∈ s.1, rngC c) : ∀ (n i k : Nat), (bk s).length - i = n → n + 20000 < k → IndexFuncB_sr_L0 k (bk s, s, Int.ofNat (bk s).length, (i : Int)) = some (firstA (badB s) (bk s) i)
  | 0, i, k + 1, hn, hk => by
    rw [firstA_end (by omega)]
    simp only [IndexFuncB_sr_L0]
    rw [i_lt, dcF (by omega)]
    rfl
  | n + 1, i, k + 1, hn, hk => by
    have hi : i < (bk s).length := by omega
    rw [firstA_step zB hi]
    simp only [IndexFuncB_sr_L0]
    rw [i_lt, dcT hi, dcT (Int.natCast_nonneg i)]
    simp only [cond_true, Right1_spec s _ k h1 h3 hl hr (by omega), Option.bind_some, Int.toNat_natCast, w64_succ (by omega : i < 4611686018427387904), sr_L0 s h1 h3 hl hr n (i + 1) k (by omega) (by omega)]
    cases badB s ((bk s).getD i zB) <;> rfl
theorem sr_spec (s : GState) (k : Nat) (h1 : s.1.length ≤ 5000) (h3 : (bk s).length ≤ 5000) (hl : SortL (bk s)) (hr : ∀ c ∈ s.1, rngC c) (hk : 25000 < k) : ContainsFuncB_sr k (s.2.2.2.2, s) = some ((bk s).any (badB s)) := by
  have h0 : IndexFuncB_sr k (s.2.2.2.2, s) = some (findA (badB s) (bk s)) := by
    unfold IndexFuncB_sr
    have := sr_L0 s h1 h3 hl hr (bk s).length 0 k (by omega) (by omega)
    rw [Int.natCast_zero] at this
    simp only [this, Option.bind_some]
    exact findA_first _ _
  unfold ContainsFuncB_sr
  simp only [h0, Option.bind_some, findA_any]
  exact bif_self _
theorem covers_iff {s : GState} (h : SortL (bk s)) (hz : ∀ b ∈ bk s, b.2 ≠ z3) : (bk s).any (badB s) = false ↔ Covers s.1 (bk s) := by
  rw [List.any_eq_false]
  constructor
  · intro h1 id hid
    rcases usedL_cases (bk s) id with ⟨b, hb, e1, e2⟩ | ⟨_, e2⟩
    · have := h1 b hb
      unfold badB at this
      rw [e1] at this
      simp only [Bool.not_eq_true, Bool.not_eq_false', Bool.and_eq_true, withB_iff] at this
      exact this
    · exact absurd e2 hid
  · intro h1 b hb
    have e := usedL_mem h hb
    have := h1 b.1 (by rw [e]; exact hz b hb)
    unfold badB
    simp only [Bool.not_eq_true, Bool.not_eq_false', Bool.and_eq_true, withB_iff]
    exact this
theorem StateRight_spec (s : GState) (k : Nat) (h1 : s.1.length ≤ 5000) (h2 : s.2.1.length ≤ 5000) (h3 : (bk s).length ≤ 5000) (hr : ∀ c ∈ s.1, rngC c) (hq : ∀ r ∈ s.2.1, rngR r) (hk : 25000 < k) : ∃ b, state_Right k s = some b ∧ (b = true ↔ RightS s) := by
  obtain ⟨b1, e1, i1⟩ := plan_Right_spec (pl s) k h1 h2 hr hq (by omega)
  have e1' : plan_Right k (s.1, s.2.1, s.2.2.1, s.2.2.2.1) = some b1 := e1
  have e2 := RightB_spec (bk s) k (by omega) (by omega)
  unfold state_Right
  simp only [e1', Option.bind_some, e2]
  cases b1 with
  | false => exact ⟨false, rfl, fun h => (by cases h), fun h => absurd (i1.2 h.1) (by simp)⟩
  | true =>
    have hp := i1.1 rfl
    simp only [cond_true]
    cases hb : rightLB (bk s) with
    | false => exact ⟨false, rfl, fun h => (by cases h), fun h => by have := (chkB_iff (bk s)).2 h.2.1; unfold rightLB at hb; rw [hb] at this; cases this⟩
    | true =>
      have hl := (chkB_iff (bk s)).1 hb
      simp only [cond_true, sr_spec s k h1 h3 hl.2 hr hk, Option.bind_some]
      have hc := covers_iff hl.2 (fun b hb => (hl.1 b hb).2.1)
      cases ha : (bk s).any (badB s) with
      | true => exact ⟨false, rfl, fun h => (by cases h), fun h => by rw [hc.2 h.2.2] at ha; cases ha⟩
      | false => exact ⟨true, rfl, fun _ => ⟨hp, hl, hc.1 ha⟩, fun _ => rfl⟩
theorem RightS.true {s : GState} (h : RightS s) (k : Nat) (hk : 25000 < k) : state_Right k s = some true := by
  have hl := h.len
  obtain ⟨b, e, i⟩ := StateRight_spec s k (by omega) (by omega) (by omega) h.t.rng h.1.2.2.2.2.2.1.rng hk
  rw [e, i.2 h]
theorem planSame_spec (p q : GPlan) (k : Nat) (h1 : p.1.length ≤ 5000) (h2 : p.2.1.length ≤ 5000) (hk : 20000 < k) : plan_Same k (p, q) = some (decide (p = q)) := by
  obtain ⟨a, b, c, d⟩ := p
  obtain ⟨a', b', c', d'⟩ := q
  have h1 : a.length ≤ 5000 := h1
  have h2 : b.length ≤ 5000 := h2
  unfold plan_Same
  simp only [Same_spec a a' k (by omega) (by omega), SameR_spec b b' k (by omega) (by omega), Option.bind_some]
  by_cases e1 : c = c' <;> by_cases e2 : d = d' <;> by_cases e3 : a = a' <;> by_cases e4 : b = b' <;> simp [e1, e2, e3, e4]
theorem StateSame_spec (s t : GState) (k : Nat) (h1 : s.1.length ≤ 5000) (h2 : s.2.1.length ≤ 5000) (h3 : (bk s).length ≤ 5000) (hk : 20000 < k) : state_Same k (s, t) = some (decide (s = t)) := by
  have e1 : plan_Same k ((s.1, s.2.1, s.2.2.1, s.2.2.2.1), t.1, t.2.1, t.2.2.1, t.2.2.2.1) = some (decide (pl s = pl t)) := planSame_spec (pl s) (pl t) k h1 h2 hk
  have e2 := SameB_spec (bk s) (bk t) k (by omega) (by omega)
  unfold state_Same
  simp only [e1, e2, Option.bind_some]
  by_cases e3 : pl s = pl t
  · rw [dcT e3]
    by_cases e4 : bk s = bk t
    · rw [dcT e4, dcT (show s = t by rw [← mk_pl s, ← mk_pl t, e3, e4])]; rfl
    · rw [dcF e4, dcF (fun e => e4 (by rw [e]) : ¬ s = t)]; rfl
  · rw [dcF e3, dcF (fun e => e3 (by rw [e]) : ¬ s = t)]; rfl
theorem Few21_spec (k : Nat) (s : GState) : feluccalaw21_Few k s = some (decide (s.1.length ≤ 50 ∧ s.2.1.length ≤ 50 ∧ (bk s).length ≤ 50)) := by
  have c : ∀ {α : Type} (l : List α), decide (Int.ofNat l.length ≤ 50) = decide (l.length ≤ 50) := fun l => by
    rw [Bool.eq_iff_iff]; simp only [decide_eq_true_eq]; show ((l.length : Int) ≤ 50) ↔ _; omega
  unfold feluccalaw21_Few feluccalaw08_Few
  simp only [c]
  by_cases e1 : s.1.length ≤ 50 <;> by_cases e2 : s.2.1.length ≤ 50 <;> by_cases e3 : (bk s).length ≤ 50 <;> simp [e1, e2, e3]
end Ex
namespace Ex
open Go
def ownC (had : List Int) (ids : List Int) : List Int := ids.foldl (fun h x => putN x h) had
theorem own_len : ∀ (ids had : List Int), (ownC had ids).length ≤ had.length + ids.length ∧ ((ownC had ids).length < had.length + ids.length ↔ ¬ (ids.Nodup ∧ ∀ x ∈ ids, x ∉ had))
  | [], had => by simp [ownC]
  | x :: r, had => by
    have ih := own_len r (putN x had)
    have e : ownC had (x :: r) = ownC (putN x had) r := rfl
    rw [e]
    cases hx : hasN x had with
    | true =>
      have h1 : putN x had = had := by unfold putN; rw [hx]; rfl
      rw [h1] at ih ⊢
      have hm := hasN_iff.1 hx
      refine ⟨by simp only [List.length_cons]; omega, ⟨fun _ h => h.2 x (List.mem_cons_self ..) hm, fun _ => by simp only [List.length_cons]; omega⟩⟩
    | false =>
      have h1 : putN x had = had ++ [x] := by unfold putN; rw [hx]; rfl
      have hm : x ∉ had := fun h => by rw [hasN_iff.2 h] at hx; cases hx
      rw [h1] at ih ⊢
      rw [List.length_append, List.length_singleton] at ih
      refine ⟨by simp only [List.length_cons]; omega, ?_⟩
      rw [List.length_cons, show had.length + (r.length + 1) = had.length + 1 + r.length by omega, ih.2]
      refine not_congr ⟨fun ⟨h2, h3⟩ => ⟨List.nodup_cons.2 ⟨fun h => h3 x h (List.mem_append_right _ (List.mem_singleton.2 rfl)), h2⟩, fun y hy => ?_⟩, fun ⟨h2, h3⟩ => ⟨(List.nodup_cons.1 h2).2, fun y hy h => ?_⟩⟩
      · rcases List.mem_cons.1 hy with rfl | hy
        · exact hm
        · exact fun h => h3 y hy (List.mem_append_left _ h)
      · rcases List.mem_append.1 h with h | h
        · exact h3 y (List.mem_cons_of_mem _ hy) h
        · rw [List.mem_singleton.1 h] at hy
          exact (List.nodup_cons.1 h2).1 hy
theorem asked_L0 (ids : List Int) (c z : Int) (s : GState) (hs : ids.length ≤ 1000000000) : ∀ (n i k : Nat) (had : List Int), ids.length - i = n → n < k → state_asked_L0 k (ids, c, z, s, had, ids, Int.ofNat ids.length, (i : Int)) = some (.inl (ids, c, z, s, ownC had (ids.drop i)))
  | 0, i, k + 1, had, hn, hk => by
    simp only [state_asked_L0]
    rw [i_lt, dcF (by omega), List.drop_eq_nil_of_le (by omega)]
    rfl
  | n + 1, i, k + 1, had, hn, hk => by
    have hi : i < ids.length := by omega
    simp only [state_asked_L0]
    rw [i_lt, dcT hi, dcT (Int.natCast_nonneg i), Int.toNat_natCast, w64_succ (by omega), getD_drop (d := 0) hi]
    exact asked_L0 ids c z s hs n (i + 1) k _ (by omega) (by omega)
theorem as_L0 (ids : List Int) (s : GState) (h1 : s.1.length ≤ 5000) (hs : ids.length ≤ 1000000000) : ∀ (n i k : Nat), ids.length - i = n → n + 5000 < k → IndexFuncI_as_L0 k (ids, s, Int.ofNat ids.length, (i : Int)) = some (firstA (fun id => !(findC s.1 id).2) ids i)
  | 0, i, k + 1, hn, hk => by
    rw [firstA_end (by omega)]
    simp only [IndexFuncI_as_L0]
    rw [i_lt, dcF (by omega)]
    rfl
  | n + 1, i, k + 1, hn, hk => by
    have hi : i < ids.length := by omega
    rw [firstA_step 0 hi]
    simp only [IndexFuncI_as_L0, state_asked_1]
    rw [i_lt, dcT hi, dcT (Int.natCast_nonneg i)]
    simp only [cond_true, contacts_Find_spec s.1 _ k (by omega) (by omega), Option.bind_some, Int.toNat_natCast, w64_succ (by omega : i < 4611686018427387904), as_L0 ids s h1 hs n (i + 1) k (by omega) (by omega)]
    cases (findC s.1 (ids.getD i 0)).2 <;> rfl
theorem as_spec (ids : List Int) (s : GState) (k : Nat) (h1 : s.1.length ≤ 5000) (hs : ids.length ≤ 1000) (hk : 10000 < k) : ContainsFuncI_as k (ids, s) = some (ids.any fun id => !(findC s.1 id).2) := by
  have h0 : IndexFuncI_as k (ids, s) = some (findA (fun id => !(findC s.1 id).2) ids) := by
    unfold IndexFuncI_as
    have := as_L0 ids s h1 (by omega) ids.length 0 k (by omega) (by omega)
    rw [Int.natCast_zero] at this
    simp only [this, Option.bind_some]
    exact findA_first _ _
  unfold ContainsFuncI_as
  simp only [h0, Option.bind_some, findA_any]
  exact bif_self _
def goodA (ids : List Int) (n size : Int) : Prop := ids ≠ [] ∧ ids.Nodup ∧ clsB n = true ∧ 0 ≤ size ∧ size ≤ 1099511627775
instance (ids : List Int) (n size : Int) : Decidable (goodA ids n size) := by unfold goodA; infer_instance
def askE (cs : List GContact) (ids : List Int) (n size : Int) : Int := if ¬ goodA ids n size then 1 else if (ids.any fun id => !(findC cs id).2) = true then 6 else 0
theorem asked_spec (s : GState) (ids : List Int) (n size : Int) (k : Nat) (h1 : s.1.length ≤ 5000) (hs : ids.length ≤ 1000) (hk : 10000 < k) : state_asked k (s, ids, n, size) = some (askE s.1 ids n size) := by
  have e0 := asked_L0 ids n size s (by omega) ids.length 0 k [] (by omega) (by omega)
  rw [Int.natCast_zero, List.drop_zero] at e0
  have hl := (own_len ids []).2
  simp only [List.length_nil, Nat.zero_add, List.not_mem_nil, not_false_eq_true, implies_true, and_true] at hl
  unfold state_asked
  simp only [e0, Option.bind_some, as_spec ids s k h1 hs hk]
  have c1 : decide (Int.ofNat ids.length = 0) = decide (ids = []) := by
    rw [Bool.eq_iff_iff]; simp only [decide_eq_true_eq]
    show ((ids.length : Int) = 0) ↔ _
    rw [← List.length_eq_zero_iff]; omega
  have c2 : decide (Int.ofNat (ownC [] ids).length < Int.ofNat ids.length) = decide (¬ ids.Nodup) := by
    rw [Bool.eq_iff_iff]; simp only [decide_eq_true_eq]
    show (((ownC [] ids).length : Int) < (ids.length : Int)) ↔ _
    rw [← hl]; omega
  have e : ∀ {x : Int} (p : Prop), ¬ goodA ids n size → (if ¬ goodA ids n size then (1 : Int) else x) = 1 := fun _ h => if_pos h
  unfold askE
  simp only [c1, c2]
  by_cases g1 : ids = []
  · rw [dcT g1, if_pos (fun h => h.1 g1)]; rfl
  rw [dcF g1]
  by_cases g2 : ids.Nodup
  · rw [dcF (fun h => h g2)]
    by_cases g3 : n < 0
    · rw [dcT g3, if_pos (fun h => by have := of_decide_eq_true h.2.2.1; omega)]; rfl
    rw [dcF g3]
    by_cases g4 : 3 ≤ n
    · rw [dcT g4, if_pos (fun h => by have := of_decide_eq_true h.2.2.1; omega)]; rfl
    rw [dcF g4]
    by_cases g5 : size < 0
    · rw [dcT g5, if_pos (fun h => by have := h.2.2.2.1; omega)]; rfl
    rw [dcF g5]
    by_cases g6 : 1099511627775 < size
    · rw [dcT g6, if_pos (fun h => by have := h.2.2.2.2; omega)]; rfl
    rw [dcF g6, if_neg (fun h => h ⟨g1, g2, dcT (by omega), by omega, by omega⟩)]
    cases ids.any fun id => !(findC s.1 id).2 <;> rfl
  · rw [dcT (by exact g2), if_pos (fun h => g2 h.2.1)]; rfl
theorem askE_0 {cs : List GContact} {ids : List Int} {n size : Int} (h : askE cs ids n size = 0) : goodA ids n size ∧ ∀ id ∈ ids, (findC cs id).2 = true := by
  unfold askE at h
  by_cases g : goodA ids n size
  · rw [if_neg (fun h => h g)] at h
    refine ⟨g, fun id hid => ?_⟩
    cases ha : (ids.any fun id => !(findC cs id).2) with
    | true => rw [ha] at h; cases h
    | false =>
      have := List.any_eq_false.1 ha id hid
      simpa using this
  · rw [if_pos g] at h; cases h
def runOk (okf : Int → T48 → Bool) (f : T48 → T48) : List GBooked → List Int → Bool
  | _, [] => true
  | l, id :: r => okf id (usedL l id) && runOk okf f (withL l id (f (usedL l id))) r
def runL (f : T48 → T48) : List GBooked → List Int → List GBooked
  | l, [] => l
  | l, id :: r => runL f (withL l id (f (usedL l id))) r
theorem all_cg {α : Type} {l : List α} {p q : α → Bool} (h : ∀ x ∈ l, p x = q x) : l.all p = l.all q := by
  induction l with
  | nil => rfl
  | cons x r ih => rw [List.all_cons, List.all_cons, h x (List.mem_cons_self ..), ih fun y hy => h y (List.mem_cons_of_mem _ hy)]
theorem runOk_all (okf : Int → T48 → Bool) (f : T48 → T48) : ∀ {ids : List Int} {l : List GBooked}, SortL l → ids.Nodup → runOk okf f l ids = ids.all fun id => okf id (usedL l id)
  | [], l, hl, hn => rfl
  | x :: r, l, hl, hn => by
    have hn' := List.nodup_cons.1 hn
    rw [runOk, runOk_all okf f (withL_sort hl _ _) hn'.2, List.all_cons]
    congr 1
    exact all_cg fun id hid => by rw [usedL_with hl, if_neg (fun e => hn'.1 (by rw [← e]; exact hid))]
theorem usedL_run (f : T48 → T48) : ∀ {ids : List Int} {l : List GBooked}, SortL l → ids.Nodup → ∀ j, usedL (runL f l ids) j = if j ∈ ids then f (usedL l j) else usedL l j
  | [], l, hl, hn, j => by simp [runL]
  | x :: r, l, hl, hn, j => by
    have hn' := List.nodup_cons.1 hn
    rw [runL, usedL_run f (withL_sort hl _ _) hn'.2 j, usedL_with hl]
    by_cases h : j = x
    · subst h
      rw [if_neg hn'.1, if_pos rfl, if_pos (List.mem_cons_self ..)]
    · rw [if_neg h]
      by_cases h2 : j ∈ r
      · rw [if_pos h2, if_pos (List.mem_cons_of_mem _ h2)]
      · rw [if_neg h2, if_neg (fun h3 => (List.mem_cons.1 h3).elim h h2)]
theorem run_right {okf : Int → T48 → Bool} (f : T48 → T48) : ∀ {ids : List Int} {l : List GBooked}, RightL l → ids.Nodup → (∀ id ∈ ids, 1 ≤ id ∧ id ≤ 1048576) → (∀ id u, okU u → okf id u = true → okU (f u)) → runOk okf f l ids = true → RightL (runL f l ids)
  | [], l, hl, hn, hr, ho, h => hl
  | x :: r, l, hl, hn, hr, ho, h => by
    have hn' := List.nodup_cons.1 hn
    rw [runOk, Bool.and_eq_true] at h
    rw [runL]
    exact run_right (okf := okf) f (withL_right hl (hr x (List.mem_cons_self ..)) (ho x _ (usedL_ok hl x) h.1)) hn'.2 (fun id hid => hr id (List.mem_cons_of_mem _ hid)) ho h.2
theorem withL_len' (l : List GBooked) (id : Int) (u : T48) : (withL l id u).length ≤ l.length + 1 := by
  have key : ∀ l : List GBooked, (l.filter fun b => decide (b.1 < id)).length + (l.filter fun b => decide (id < b.1)).length ≤ l.length := by
    intro l
    induction l with
    | nil => simp
    | cons b r ih =>
      rw [List.filter_cons, List.filter_cons]
      by_cases h1 : b.1 < id
      · rw [if_pos (dcT h1), if_neg (by simp; omega)]
        simp only [List.length_cons]; omega
      · rw [if_neg (by simpa using h1)]
        split <;> simp only [List.length_cons] <;> omega
  have := key l
  unfold withL oneL
  cases decide (u = z3) <;> simp only [cond_true, cond_false, List.length_append, List.length_cons, List.length_nil] <;> omega
end Ex
namespace Ex
open Go
def bkOk (cs : List GContact) (n size : Int) (id : Int) (u : T48) : Bool := bookB u (findC cs id).1 n size
def bkF (n size : Int) (u : T48) : T48 := addU u n size
def rlOk (n size : Int) (id : Int) (u : T48) : Bool := freeB u n size
def rlF (n size : Int) (u : T48) : T48 := addU u n (-size)
theorem bk_L0 (s : GState) (h : RightS s) (n size : Int) (ids : List Int) (hs : ids.length ≤ 50) (hf : ∀ id ∈ ids, (findC s.1 id).2 = true) : ∀ (m i k : Nat) (x : GState), ids.length - i = m → m + 20100 < k → i ≤ ids.length → RightL (bk x) → (bk x).length ≤ 5000 + i →
    state_each_bk_L0 k ((s, n, size), s, zS, x, ids, Int.ofNat ids.length, (i : Int)) = some (bif runOk (bkOk s.1 n size) (bkF n size) (bk x) (ids.drop i) then .inl (zS, stS (pl x) (runL (bkF n size) (bk x) (ids.drop i))) else .inr (s, 8))
  | 0, i, k + 1, x, hm, hk, hi, hl, hx => by
    simp only [state_each_bk_L0]
    rw [i_lt, dcF (by omega), List.drop_eq_nil_of_le (by omega)]
    rfl
  | m + 1, i, k + 1, x, hm, hk, hi, hl, hx => by
    have hlt : i < ids.length := by omega
    have hmem : ids.getD i 0 ∈ ids := by rw [List.getD_eq_getElem?_getD, List.getElem?_eq_getElem hlt]; exact List.getElem_mem hlt
    have hfd := hf _ hmem
    have hid := findC_id hfd
    have hr := find_rng h.t.rng (ids.getD i 0)
    have hb := Book_spec (bk x) (findC s.1 (ids.getD i 0)).1 n size k (by omega) hl hr (by omega)
    rw [hid] at hb
    have hlen := h.len
    have hcon := h.t.1 _ (findC_some hfd).1
    rw [getD_drop (d := 0) hlt, runOk, runL]
    simp only [state_each_bk_L0, state_Book_1]
    rw [i_lt, dcT hlt, dcT (Int.natCast_nonneg i), Int.toNat_natCast]
    simp only [cond_true, contacts_Find_spec s.1 _ k (by omega) (by omega), Option.bind_some, hb, hfd]
    show _ = some (bif (bookB (usedL (bk x) (ids.getD i 0)) (findC s.1 (ids.getD i 0)).1 n size && _) then _ else _)
    cases ho : bookB (usedL (bk x) (ids.getD i 0)) (findC s.1 (ids.getD i 0)).1 n size with
    | false =>
      simp only [cond_false, Option.bind_some, h.copied k (by omega), Bool.false_and]
    | true =>
      simp only [cond_true, Option.bind_some, Bool.true_and, w64_succ (by omega : i < 4611686018427387904)]
      have hu := add_62 (usedL_ok hl (ids.getD i 0)) ho
      have hin : 1 ≤ ids.getD i 0 ∧ ids.getD i 0 ≤ 1048576 := by
        rw [← hid]
        unfold conB at hcon
        simp only [Bool.and_eq_true, decide_eq_true_eq] at hcon
        exact hcon.1.2
      have hu2 : okU (addU (usedL (bk x) (ids.getD i 0)) n size) := by
        obtain ⟨u1, u2, u3⟩ := usedL_ok hl (ids.getD i 0)
        unfold addU
        unfold getU at hu
        split
        · rename_i e; rw [if_pos e] at hu; exact ⟨hu, u2, u3⟩
        · rename_i e
          rw [if_neg e] at hu
          split
          · rename_i e2; rw [if_pos e2] at hu; exact ⟨u1, hu, u3⟩
          · rename_i e2; rw [if_neg e2] at hu; exact ⟨u1, u2, hu⟩
      have hw := withL_len' (bk x) (ids.getD i 0) (addU (usedL (bk x) (ids.getD i 0)) n size)
      exact bk_L0 s h n size ids hs hf m (i + 1) k (x.1, x.2.1, x.2.2.1, x.2.2.2.1, withL (bk x) (ids.getD i 0) (addU (usedL (bk x) (ids.getD i 0)) n size)) (by omega) (by omega) (by omega) (withL_right hl hin hu2) (by show (withL _ _ _).length ≤ _; omega)
theorem free_ok {u : T48} (hu : okU u) {n size : Int} (h : freeB u n size = true) : okU (addU u n (-size)) := by
  unfold freeB at h
  simp only [Bool.and_eq_true, decide_eq_true_eq] at h
  obtain ⟨h1, h2, h3⟩ := h
  obtain ⟨u1, u2, u3⟩ := hu
  unfold getU at h3
  unfold addU
  unfold okU In62 at *
  rcases cls_cases h1 with rfl | rfl | rfl
  · simp only [if_true] at h3 ⊢; omega
  · simp only [show ¬ (1 : Int) = 0 by omega, if_false, if_true] at h3 ⊢; omega
  · simp only [show ¬ (2 : Int) = 0 by omega, show ¬ (2 : Int) = 1 by omega, if_false] at h3 ⊢; omega
theorem book_ok {u : T48} (hu : okU u) {c : GContact} {n size : Int} (h : bookB u c n size = true) : okU (addU u n size) := by
  have hx := add_62 hu h
  obtain ⟨u1, u2, u3⟩ := hu
  unfold addU
  unfold getU at hx
  split
  · rename_i e; rw [if_pos e] at hx; exact ⟨hx, u2, u3⟩
  · rename_i e
    rw [if_neg e] at hx
    split
    · rename_i e2; rw [if_pos e2] at hx; exact ⟨u1, hx, u3⟩
    · rename_i e2; rw [if_neg e2] at hx; exact ⟨u1, u2, hx⟩
theorem rl_L0 (s : GState) (h : RightS s) (n size : Int) (ids : List Int) (hs : ids.length ≤ 50) (hr : ∀ id ∈ ids, 1 ≤ id ∧ id ≤ 1048576) : ∀ (m i k : Nat) (x : GState), ids.length - i = m → m + 20100 < k → i ≤ ids.length → RightL (bk x) → (bk x).length ≤ 5000 + i →
    state_each_rl_L0 k ((n, size), s, zS, x, ids, Int.ofNat ids.length, (i : Int)) = some (bif runOk (rlOk n size) (rlF n size) (bk x) (ids.drop i) then .inl (zS, stS (pl x) (runL (rlF n size) (bk x) (ids.drop i))) else .inr (s, 8))
  | 0, i, k + 1, x, hm, hk, hi, hl, hx => by
    simp only [state_each_rl_L0]
    rw [i_lt, dcF (by omega), List.drop_eq_nil_of_le (by omega)]
    rfl
  | m + 1, i, k + 1, x, hm, hk, hi, hl, hx => by
    have hlt : i < ids.length := by omega
    have hmem : ids.getD i 0 ∈ ids := by rw [List.getD_eq_getElem?_getD, List.getElem?_eq_getElem hlt]; exact List.getElem_mem hlt
    have hb := Release_spec (bk x) (ids.getD i 0) n size k (by omega) hl (by omega)
    rw [getD_drop (d := 0) hlt, runOk, runL]
    simp only [state_each_rl_L0, state_Release_1]
    rw [i_lt, dcT hlt, dcT (Int.natCast_nonneg i), Int.toNat_natCast]
    simp only [cond_true, Option.bind_some, hb]
    show _ = some (bif (freeB (usedL (bk x) (ids.getD i 0)) n size && _) then _ else _)
    cases ho : freeB (usedL (bk x) (ids.getD i 0)) n size with
    | false =>
      simp only [cond_false, Option.bind_some, h.copied k (by omega), Bool.false_and]
    | true =>
      simp only [cond_true, Option.bind_some, Bool.true_and, w64_succ (by omega : i < 4611686018427387904)]
      have hw := withL_len' (bk x) (ids.getD i 0) (addU (usedL (bk x) (ids.getD i 0)) n (-size))
      exact rl_L0 s h n size ids hs hr m (i + 1) k (x.1, x.2.1, x.2.2.1, x.2.2.2.1, withL (bk x) (ids.getD i 0) (addU (usedL (bk x) (ids.getD i 0)) n (-size))) (by omega) (by omega) (by omega) (withL_right hl (hr _ hmem) (free_ok (usedL_ok hl _) ho)) (by show (withL _ _ _).length ≤ _; omega)
theorem found_rng {s : GState} (h : RightS s) {id : Int} (hf : (findC s.1 id).2 = true) : 1 ≤ id ∧ id ≤ 1048576 := by
  have hcon := h.t.1 _ (findC_some hf).1
  have hid := findC_id hf
  rw [← hid]
  unfold conB at hcon
  simp only [Bool.and_eq_true, decide_eq_true_eq] at hcon
  exact hcon.1.2
def eachA (s : GState) (ids : List Int) (n size : Int) (okf : Int → T48 → Bool) (f : T48 → T48) : GState × Int :=
  if askE s.1 ids n size ≠ 0 then (s, askE s.1 ids n size) else bif runOk okf f (bk s) ids then (stS (pl s) (runL f (bk s) ids), 0) else (s, 8)
theorem Book21_spec {s : GState} (h : RightS s) (ids : List Int) (n size : Int) (hs : ids.length ≤ 50) (k : Nat) (hk : 30000 < k) : state_Book k (s, ids, n, size) = some (eachA s ids n size (bkOk s.1 n size) (bkF n size)) := by
  have hl := h.len
  unfold state_Book state_each_bk eachA
  simp only [asked_spec s ids n size k (by omega) (by omega) (by omega), h.copied k (by omega), Option.bind_some]
  by_cases he : askE s.1 ids n size = 0
  · rw [dcT he, if_neg (by simp [he])]
    obtain ⟨hg, hf⟩ := askE_0 he
    have := bk_L0 s h n size ids hs hf ids.length 0 k s (by omega) (by omega) (by omega) h.2.1 (by omega)
    rw [Int.natCast_zero, List.drop_zero] at this
    simp only [Bool.not_true, cond_false, this, Option.bind_some]
    cases runOk (bkOk s.1 n size) (bkF n size) (bk s) ids <;> rfl
  · rw [dcF he, if_pos he]
    rfl
theorem Release21_spec {s : GState} (h : RightS s) (ids : List Int) (n size : Int) (hs : ids.length ≤ 50) (k : Nat) (hk : 30000 < k) : state_Release k (s, ids, n, size) = some (eachA s ids n size (rlOk n size) (rlF n size)) := by
  have hl := h.len
  unfold state_Release state_each_rl eachA
  simp only [asked_spec s ids n size k (by omega) (by omega) (by omega), h.copied k (by omega), Option.bind_some]
  by_cases he : askE s.1 ids n size = 0
  · rw [dcT he, if_neg (by simp [he])]
    obtain ⟨hg, hf⟩ := askE_0 he
    have := rl_L0 s h n size ids hs (fun id hid => found_rng h (hf id hid)) ids.length 0 k s (by omega) (by omega) (by omega) h.2.1 (by omega)
    rw [Int.natCast_zero, List.drop_zero] at this
    simp only [Bool.not_true, cond_false, this, Option.bind_some]
    cases runOk (rlOk n size) (rlF n size) (bk s) ids <;> rfl
  · rw [dcF he, if_pos he]
    rfl
theorem add_within {u : T48} {c : GContact} (hu : okU u) (hw : withinU u c) {n size : Int} (h : bookB u c n size = true) : withinU (addU u n size) c := by
  unfold bookB at h
  simp only [Bool.and_eq_true, decide_eq_true_eq] at h
  obtain ⟨_, h1, h2, h3⟩ := h
  unfold roomL at h3
  rw [if_pos h1] at h3
  obtain ⟨u1, u2, u3⟩ := hu
  have hv := vol_62 c
  unfold withinU addU
  unfold withinU at hw
  unfold In62 at *
  rcases cls_cases h1 with rfl | rfl | rfl
  · unfold backL satB at h3; simp only [if_true] at h3 ⊢; omega
  · unfold backL satB at h3; simp only [show ¬ (1 : Int) = 0 by omega, if_false, if_true] at h3 ⊢; omega
  · unfold backL satB at h3; simp only [show ¬ (2 : Int) = 0 by omega, show ¬ (2 : Int) = 1 by omega, if_false] at h3 ⊢; omega
theorem free_within {u : T48} {c : GContact} (hw : withinU u c) {n size : Int} (h : freeB u n size = true) : withinU (addU u n (-size)) c := by
  unfold freeB at h
  simp only [Bool.and_eq_true, decide_eq_true_eq] at h
  obtain ⟨h1, h2, h3⟩ := h
  unfold withinU addU
  unfold withinU at hw
  rcases cls_cases h1 with rfl | rfl | rfl
  · simp only [if_true]; omega
  · simp only [show ¬ (1 : Int) = 0 by omega, if_false, if_true]; omega
  · simp only [show ¬ (2 : Int) = 0 by omega, show ¬ (2 : Int) = 1 by omega, if_false]; omega
theorem within_z3 (c : GContact) : withinU z3 c := by
  have := vol_62 c
  unfold In62 at this
  unfold withinU
  simp only
  omega
theorem covers_within {cs : List GContact} {l : List GBooked} (h : Covers cs l) (id : Int) : withinU (usedL l id) (findC cs id).1 := by
  by_cases e : usedL l id = z3
  · rw [e]; exact within_z3 _
  · exact (h id e).2
theorem run_keeps {s : GState} (h : RightS s) {okf : Int → T48 → Bool} {f : T48 → T48} {ids : List Int} (hn : ids.Nodup) (hf : ∀ id ∈ ids, (findC s.1 id).2 = true) (h1 : ∀ id u, okU u → okf id u = true → okU (f u)) (h2 : ∀ id u, okU u → withinU u (findC s.1 id).1 → okf id u = true → withinU (f u) (findC s.1 id).1) (ho : runOk okf f (bk s) ids = true) : RightS (stS (pl s) (runL f (bk s) ids)) := by
  have hr := run_right (okf := okf) f h.2.1 hn (fun id hid => found_rng h (hf id hid)) h1 ho
  refine ⟨h.1, hr, fun id hid => ?_⟩
  show (findC s.1 id).2 = true ∧ withinU (usedL (runL f (bk s) ids) id) (findC s.1 id).1
  have hu : usedL (runL f (bk s) ids) id ≠ z3 := hid
  rw [usedL_run f h.2.1.2 hn] at hu ⊢
  rw [runOk_all okf f h.2.1.2 hn] at ho
  split at hu
  · rename_i hm
    rw [if_pos hm]
    exact ⟨hf id hm, h2 id _ (usedL_ok h.2.1 id) (covers_within h.2.2 id) (List.all_eq_true.1 ho id hm)⟩
  · rename_i hm
    rw [if_neg hm]
    exact h.2.2 id hu
def Keeps (s : GState) (o : GState × Int) : Prop := (o.2 ≠ 0 ∧ o.1 = s) ∨ (o.2 = 0 ∧ RightS o.1 ∧ s.2.2.1 ≤ o.1.2.2.1)
theorem each_keeps {s : GState} (h : RightS s) {okf : Int → T48 → Bool} {f : T48 → T48} {ids : List Int} {n size : Int} (h1 : ∀ id u, okU u → okf id u = true → okU (f u)) (h2 : ∀ id u, okU u → withinU u (findC s.1 id).1 → okf id u = true → withinU (f u) (findC s.1 id).1) : Keeps s (eachA s ids n size okf f) := by
  unfold eachA
  by_cases he : askE s.1 ids n size = 0
  · rw [if_neg (by simp [he])]
    obtain ⟨hg, hf⟩ := askE_0 he
    cases ho : runOk okf f (bk s) ids with
    | false => exact .inl ⟨by show (8 : Int) ≠ 0; decide, rfl⟩
    | true => exact .inr ⟨rfl, run_keeps h hg.2.1 hf h1 h2 ho, Int.le_refl _⟩
  · rw [if_pos he]
    exact .inl ⟨he, rfl⟩
theorem book_keeps {s : GState} (h : RightS s) (ids : List Int) (n size : Int) : Keeps s (eachA s ids n size (bkOk s.1 n size) (bkF n size)) :=
  each_keeps h (fun id u hu ho => book_ok hu ho) (fun id u hu hw ho => add_within hu hw ho)
theorem free_keeps {s : GState} (h : RightS s) (ids : List Int) (n size : Int) : Keeps s (eachA s ids n size (rlOk n size) (rlF n size)) :=
  each_keeps h (fun id u hu ho => free_ok hu ho) (fun id u hu hw ho => free_within hw ho)
def advA (s : GState) (now : Int) : GState × Int := if now < s.2.2.1 ∨ 2147483647 < now then (s, 7) else (stS (advP (pl s) now) (dropL (bk s) (sorted (goneC now s.1))), 0)
theorem Advance21_spec {s : GState} (h : RightS s) (now : Int) (k : Nat) (hk : 30000 < k) : state_Advance k (s, now) = some (advA s now) := by
  have hl := h.len
  have e1 : plan_Advance k ((s.1, s.2.1, s.2.2.1, s.2.2.2.1), now) = _ := Advance_cases h.1 (by show s.1.length ≤ _; omega) (by show s.2.1.length ≤ _; omega) now k (by omega)
  have hg := goneC_len now s.1
  have hsl := sorted_len (goneC now s.1)
  unfold state_Advance advA
  simp only [e1, Option.bind_some, h.copied k (by omega)]
  have ec : (pl s).2.2.1 = s.2.2.1 := rfl
  have e0 : (pl s).1 = s.1 := rfl
  rw [ec, e0]
  by_cases hc : now < s.2.2.1 ∨ 2147483647 < now
  · simp only [if_pos hc]; rfl
  · simp only [if_neg hc, decide_true, Bool.not_true, cond_false, Drop_spec (bk s) (sorted (goneC now s.1)) k (by omega) (by omega) (by omega), Option.bind_some]
    rfl
theorem find_keep {cs ds : List GContact} (hd : ds.Pairwise fun a b => a.1 ≠ b.1) {id : Int} (hf : (findC cs id).2 = true) (hm : (findC cs id).1 ∈ ds) : findC ds id = findC cs id := by
  have := findC_mem hd hm
  rw [findC_id hf] at this
  rw [this]
  exact Prod.ext rfl hf.symm
theorem drop_right {l : List GBooked} (h : RightL l) (ids : List Int) : RightL (dropL l ids) := h.filter _
theorem adv_keeps {s : GState} (h : RightS s) (now : Int) : Keeps s (advA s now) := by
  unfold advA
  by_cases hc : now < s.2.2.1 ∨ 2147483647 < now
  · rw [if_pos hc]; exact .inl ⟨by show (7 : Int) ≠ 0; decide, rfl⟩
  · rw [if_neg hc]
    have hp : RightP (advP (pl s) now) := advP_right h.1 (by show s.2.2.1 ≤ now; omega) (by omega)
    refine .inr ⟨rfl, ⟨hp, drop_right h.2.1 _, fun id hid => ?_⟩, by show s.2.2.1 ≤ now; omega⟩
    have hid : usedL (dropL (bk s) (sorted (goneC now s.1))) id ≠ z3 := hid
    show (findC (leftC now s.1) id).2 = true ∧ withinU (usedL (dropL (bk s) (sorted (goneC now s.1))) id) (findC (leftC now s.1) id).1
    rw [usedL_drop h.2.1.2] at hid ⊢
    split at hid
    · exact absurd rfl hid
    · rename_i hm
      rw [if_neg hm]
      have hcv := h.2.2 id hid
      have hin : (findC s.1 id).1 ∈ leftC now s.1 := by
        unfold leftC
        refine List.mem_filter.2 ⟨(findC_some hcv.1).1, dcT ?_⟩
        refine Decidable.byContradiction fun hn => hm ((sorted_perm _).mem_iff.2 ?_)
        unfold goneC
        exact List.mem_map.2 ⟨_, List.mem_filter.2 ⟨(findC_some hcv.1).1, by simpa using hn⟩, findC_id hcv.1⟩
      rw [find_keep (ds := leftC now s.1) (hp.2.2.2.2.1.1.ids) hcv.1 hin]
      exact hcv
theorem Edit21_cases {s : GState} (h : RightS s) (d : GDirective) (hd : rngD d) (k : Nat) (hk : 30000 < k) : ∃ o, state_Edit k (s, d) = some o ∧ Keeps s o := by
  have hl := h.len
  have hdr : ledger_Drop k (s.2.2.2.2, []) = some (bk s) := by
    have := Drop_spec (bk s) [] k (by omega) (by simp) (by simp only [List.length_nil]; omega)
    rwa [drop_nil] at this
  have hdi : ledger_Drop k (s.2.2.2.2, [d.2.2.1]) = some (dropL (bk s) [d.2.2.1]) := Drop_spec (bk s) [d.2.2.1] k (by omega) (by simp) (by simp only [List.length_cons, List.length_nil]; omega)
  unfold state_Edit
  rcases Apply_cases h.1 (by show s.1.length ≤ _; omega) (by show s.2.1.length ≤ _; omega) d hd k (by omega) with ⟨e, he, ha⟩ | ⟨q, ha, hq, hcl, hkp⟩
  · have ha' : plan_Apply k ((s.1, s.2.1, s.2.2.1, s.2.2.2.1), d) = some (pl s, e) := ha
    simp only [ha', Option.bind_some, h.copied k (by omega), dcF he, Bool.not_false, cond_true]
    exact ⟨_, rfl, .inl ⟨he, rfl⟩⟩
  · have ha' : plan_Apply k ((s.1, s.2.1, s.2.2.1, s.2.2.2.1), d) = some (q, 0) := ha
    have hqt : RightT q.1 := hq.2.2.2.2.1.1
    have hql : q.1.length ≤ 4096 := hq.2.2.2.2.1.2
    have hcl' : q.2.2.1 = s.2.2.1 := hcl
    simp only [ha', Option.bind_some, hdr, hdi, decide_true, Bool.not_true, cond_false]
    rcases hkp with ⟨o1, o2, e1⟩ | ⟨o1, o2, ⟨c, hc, hci⟩, hkeep⟩ | ⟨hno, hkeep⟩
    · have b1 : (d.1 == 2 && d.2.1 == 1) = true := by simp [o1, o2]
      rw [b1]
      refine ⟨_, rfl, .inr ⟨rfl, ⟨hq, drop_right h.2.1 _, fun id hid => ?_⟩, by show s.2.2.1 ≤ q.2.2.1; omega⟩⟩
      have hid : usedL (dropL (bk s) [d.2.2.1]) id ≠ z3 := hid
      show (findC q.1 id).2 = true ∧ withinU (usedL (dropL (bk s) [d.2.2.1]) id) (findC q.1 id).1
      rw [usedL_drop h.2.1.2] at hid ⊢
      split at hid
      · exact absurd rfl hid
      · rename_i hm
        rw [if_neg hm]
        have hcv := h.2.2 id hid
        have hin : (findC s.1 id).1 ∈ q.1 := by
          rw [e1]
          refine List.mem_filter.2 ⟨(findC_some hcv.1).1, ?_⟩
          unfold keepC
          rw [findC_id hcv.1]
          simpa using hm
        rw [find_keep hqt.ids hcv.1 hin]
        exact hcv
    · have b1 : (d.1 == 2 && d.2.1 == 1) = false := by simp [o1]
      have b2 : (d.1 == 3 && d.2.1 == 1) = true := by simp [o1, o2]
      have hfc : findC q.1 d.2.2.1 = (c, true) := by rw [← hci]; exact findC_mem hqt.ids hc
      have hov := over_spec (bk s) c k (by omega) h.2.1.2 (hqt.rng c hc) (by omega)
      rw [hci] at hov
      rw [b1, b2]
      simp only [cond_true, cond_false, contacts_Find_spec q.1 d.2.2.1 k (by omega) (by omega), Option.bind_some, hfc, hov, h.copied k (by omega)]
      cases hw : withB (usedL (bk s) d.2.2.1) c with
      | false => exact ⟨_, rfl, .inl ⟨by show (8 : Int) ≠ 0; decide, rfl⟩⟩
      | true =>
        refine ⟨_, rfl, .inr ⟨rfl, ⟨hq, h.2.1, fun id hid => ?_⟩, by show s.2.2.1 ≤ q.2.2.1; omega⟩⟩
        have hid : usedL (bk s) id ≠ z3 := hid
        show (findC q.1 id).2 = true ∧ withinU (usedL (bk s) id) (findC q.1 id).1
        have hcv := h.2.2 id hid
        by_cases hi : id = d.2.2.1
        · rw [hi, hfc]
          exact ⟨rfl, (withB_iff _ _).1 hw⟩
        · rw [find_keep hqt.ids hcv.1 (hkeep _ (findC_some hcv.1).1 (by rw [findC_id hcv.1]; exact hi))]
          exact hcv
    · have fin : ∃ o, some (((q.1, q.2.1, q.2.2.1, q.2.2.2, bk s), (0 : Int)) : GState × Int) = some o ∧ Keeps s o := by
        refine ⟨_, rfl, .inr ⟨rfl, ⟨hq, h.2.1, fun id hid => ?_⟩, by show s.2.2.1 ≤ q.2.2.1; omega⟩⟩
        have hid : usedL (bk s) id ≠ z3 := hid
        show (findC q.1 id).2 = true ∧ withinU (usedL (bk s) id) (findC q.1 id).1
        have hcv := h.2.2 id hid
        rw [find_keep hqt.ids hcv.1 (hkeep _ (findC_some hcv.1).1)]
        exact hcv
      have b1 : (d.1 == 2 && d.2.1 == 1) = false := by
        rw [Bool.eq_false_iff]; simp only [ne_eq, Bool.and_eq_true, beq_iff_eq]; exact fun hh => hno ⟨.inl hh.1, hh.2⟩
      have b2 : (d.1 == 3 && d.2.1 == 1) = false := by
        rw [Bool.eq_false_iff]; simp only [ne_eq, Bool.and_eq_true, beq_iff_eq]; exact fun hh => hno ⟨.inr hh.1, hh.2⟩
      rw [b1, b2]
      exact fin
end Ex
namespace Ex
open Go
theorem okS_1 {s : GState} (h : okvT kGState s) : ∀ c ∈ s.1, okvT kGContact c := by
  simp only [okvT] at h
  exact rows_ok h.1
theorem okS_2 {s : GState} (h : okvT kGState s) : ∀ r ∈ s.2.1, okvT kGRange r := by
  simp only [okvT] at h
  exact rows_ok h.2.1
theorem small21 (k : Nat) : feluccalaw21_small k () = some true := rfl
end Ex
namespace Ex.Tx
open Go Go.RowKit Go.Lib Go.Proofs.YthlhbnaloefncaaGreatDoor.Dig
abbrev In64 (n : Int) : Prop := -9223372036854775808 ≤ n ∧ n ≤ 9223372036854775807
def cOk (i f t s e r : Int) : Bool := decide ((1 ≤ f ∧ f ≤ 255) ∧ (1 ≤ t ∧ t ≤ 255) ∧ f ≠ t ∧ 0 ≤ s ∧ s < e ∧ e ≤ 2147483647 ∧ 1 ≤ i ∧ i ≤ 1048576 ∧ 1 ≤ r ∧ r ≤ 2147483647)
def rOk (f t s e y : Int) : Bool := decide ((1 ≤ f ∧ f ≤ 255) ∧ (1 ≤ t ∧ t ≤ 255) ∧ f ≠ t ∧ 0 ≤ s ∧ s < e ∧ e ≤ 2147483647 ∧ 0 ≤ y ∧ y ≤ 2147483647)
def zR (p u v x y : Int) : Bool := decide (p = 0 ∧ u = 0 ∧ v = 0 ∧ x = 0 ∧ y = 0)
def zC (i f t s e r : Int) : Bool := decide (i = 0 ∧ f = 0 ∧ t = 0 ∧ s = 0 ∧ e = 0 ∧ r = 0)
def rightB (o q i f t s e r p u v x y : Int) : Bool :=
  if q = 1 then (zR p u v x y && (if o = 1 then cOk i f t s e r else if o = 2 then (decide (f = 0 ∧ t = 0 ∧ s = 0 ∧ e = 0 ∧ r = 0) && cOk i 1 2 0 1 1) else if o = 3 then (decide (f = 0 ∧ t = 0 ∧ s = 0 ∧ e = 0) && cOk i 1 2 0 1 r) else false))
  else if q = 2 then (zC i f t s e r && (if o = 1 then rOk p u v x y else if o = 2 then (decide (x = 0 ∧ y = 0) && rOk p u v 2147483647 0) else if o = 3 then (decide (x = 0) && rOk p u v 2147483647 y) else false))
  else false
def dR : GDirective → Bool := fun (o, q, i, f, t, s, e, r, p, u, v, x, y) => rightB o q i f t s e r p u v x y
theorem w64' {n : Int} (h : In64 n) : w64 n = n := by
  have h1 := h.1
  have h2 := h.2
  unfold w64 IntKind.wrap
  simp [IntKind.signed, IntKind.bits, Int.bmod]
  omega
theorem zb (x : Int) : ((0 : Int) == x) = decide (x = 0) := by
  by_cases h : x = 0
  · subst h; rfl
  · rw [dcF h]; exact beq_eq_false_iff_ne.2 (Ne.symm h)
theorem bif_id (a : Bool) : (bif a then some true else some false) = some a := by cases a <;> rfl
theorem bif_and (a b : Bool) : (bif a then some b else some false) = some (a && b) := by cases a <;> rfl
theorem num_In_sp (k : Nat) (n lo hi : Int) : num_In k (n, lo, hi) = some (decide (lo ≤ n ∧ n ≤ hi)) := by
  unfold num_In
  by_cases h1 : lo ≤ n <;> by_cases h2 : n ≤ hi <;> simp [h1, h2]
theorem contact_sp (k : Nat) {i f t s e r : Int} (he : In64 e) : check_Contact k (i, f, t, s, e, r) = some (cOk i f t s e r) := by
  unfold check_Contact check_way check_Node check_span
  simp only [num_In_sp, Option.bind_some, bif_id, bif_and]
  have e1 : w64 (e - 1) = e - 1 ∨ e = -9223372036854775808 ∧ w64 (e - 1) = 9223372036854775807 := by
    by_cases h : e = -9223372036854775808
    · subst h; exact .inr ⟨rfl, by decide⟩
    · exact .inl (w64' ⟨by have := he.1; omega, by have := he.2; omega⟩)
  rcases e1 with e1 | ⟨rfl, e1⟩
  · rw [e1]
    congr 1
    rw [Bool.eq_iff_iff]
    simp only [Bool.and_eq_true, decide_eq_true_eq, Bool.not_eq_true', decide_eq_false_iff_not, cOk, and_true]
    omega
  · rw [e1]
    congr 1
    rw [Bool.eq_iff_iff]
    simp only [Bool.and_eq_true, decide_eq_true_eq, Bool.not_eq_true', decide_eq_false_iff_not, cOk, and_true]
    omega
theorem range_sp (k : Nat) {f t s e y : Int} (he : In64 e) : check_Range k (f, t, s, e, y) = some (rOk f t s e y) := by
  unfold check_Range check_way check_Node check_span
  simp only [num_In_sp, Option.bind_some, bif_id, bif_and]
  have e1 : w64 (e - 1) = e - 1 ∨ e = -9223372036854775808 ∧ w64 (e - 1) = 9223372036854775807 := by
    by_cases h : e = -9223372036854775808
    · subst h; exact .inr ⟨rfl, by decide⟩
    · exact .inl (w64' ⟨by have := he.1; omega, by have := he.2; omega⟩)
  rcases e1 with e1 | ⟨rfl, e1⟩
  · rw [e1]
    congr 1
    rw [Bool.eq_iff_iff]
    simp only [Bool.and_eq_true, decide_eq_true_eq, Bool.not_eq_true', decide_eq_false_iff_not, rOk, and_true]
    omega
  · rw [e1]
    congr 1
    rw [Bool.eq_iff_iff]
    simp only [Bool.and_eq_true, decide_eq_true_eq, Bool.not_eq_true', decide_eq_false_iff_not, rOk, and_true]
    omega
theorem one64 : In64 1 := by constructor <;> decide
theorem max64 : In64 2147483647 := by constructor <;> decide
theorem mx_one (r : Int) : mx r 1 = max r 1 := by
  unfold mx
  split <;> omega
theorem right_sp (k : Nat) {d : GDirective} (he : In64 d.2.2.2.2.2.2.1) (hx : In64 d.2.2.2.2.2.2.2.2.2.2.2.1) : direct_Right k d = some (dR d) := by
  obtain ⟨o, q, i, f, t, s, e, r, p, u, v, x, y⟩ := d
  simp only at he hx
  simp only [dR]
  unfold direct_Right direct_may
  simp only [contact_sp k he, contact_sp k one64, range_sp k hx, range_sp k max64, Option.bind_some, bif_id, bif_and]
  by_cases hp : (o, q) ∈ fKsG
  · simp only [fKsG, List.mem_cons, List.not_mem_nil, or_false, Prod.mk.injEq] at hp
    rcases hp with ⟨rfl, rfl⟩ | ⟨rfl, rfl⟩ | ⟨rfl, rfl⟩ | ⟨rfl, rfl⟩ | ⟨rfl, rfl⟩ | ⟨rfl, rfl⟩
    · simp [rightB, zR, bif_and, zb]
    · simp [rightB, zR, bif_and, mx_one, zb]
      rw [Bool.eq_iff_iff]
      simp only [Bool.and_eq_true, decide_eq_true_eq]
      constructor
      · rintro ⟨⟨⟨rfl, rfl, rfl, rfl, rfl⟩, ⟨rfl, rfl, rfl, rfl, rfl⟩⟩, h2⟩; exact ⟨⟨rfl, rfl, rfl, rfl, rfl⟩, ⟨rfl, rfl, rfl, rfl, rfl⟩, h2⟩
      · rintro ⟨⟨rfl, rfl, rfl, rfl, rfl⟩, ⟨rfl, rfl, rfl, rfl, rfl⟩, h2⟩; exact ⟨⟨⟨rfl, rfl, rfl, rfl, rfl⟩, ⟨rfl, rfl, rfl, rfl, rfl⟩⟩, h2⟩
    · simp [rightB, zR, bif_and, zb]
      rw [Bool.eq_iff_iff]
      simp only [Bool.and_eq_true, decide_eq_true_eq]
      constructor
      · rintro ⟨⟨h1, h3⟩, h2⟩; exact ⟨h3, h1, h2⟩
      · rintro ⟨h1, h3, h2⟩; exact ⟨⟨h3, h1⟩, h2⟩
    · simp [rightB, zC, bif_and, zb]
    · simp [rightB, zC, bif_and, zb]
      rw [Bool.eq_iff_iff]
      simp only [Bool.and_eq_true, decide_eq_true_eq]
      constructor
      · rintro ⟨⟨h1, rfl, rfl⟩, h2⟩; exact ⟨h1, ⟨rfl, rfl⟩, h2⟩
      · rintro ⟨h1, ⟨rfl, rfl⟩, h2⟩; exact ⟨⟨h1, rfl, rfl⟩, h2⟩
    · simp [rightB, zC, bif_and, zb, Bool.and_assoc]
  · simp only [fKsG, List.mem_cons, List.not_mem_nil, or_false, Prod.mk.injEq, not_or, not_and] at hp
    have hb : rightB o q i f t s e r p u v x y = false := by
      unfold rightB
      by_cases q1 : q = 1
      · have h1 : o ≠ 1 := fun h => hp.1 h q1
        have h2 : o ≠ 2 := fun h => hp.2.1 h q1
        have h3 : o ≠ 3 := fun h => hp.2.2.1 h q1
        simp [q1, h1, h2, h3]
      · by_cases q2 : q = 2
        · have h1 : o ≠ 1 := fun h => hp.2.2.2.1 h q2
          have h2 : o ≠ 2 := fun h => hp.2.2.2.2.1 h q2
          have h3 : o ≠ 3 := fun h => hp.2.2.2.2.2 h q2
          simp [q2, h1, h2, h3]
        · simp [q1, q2]
    rw [hb]
    have n1 : (decide (o = 1) && decide (q = 1)) = false := by rw [← Bool.decide_and]; exact dcF fun h => hp.1 h.1 h.2
    have n2 : (decide (o = 2) && decide (q = 1)) = false := by rw [← Bool.decide_and]; exact dcF fun h => hp.2.1 h.1 h.2
    have n3 : (decide (o = 3) && decide (q = 1)) = false := by rw [← Bool.decide_and]; exact dcF fun h => hp.2.2.1 h.1 h.2
    have n4 : (decide (o = 1) && decide (q = 2)) = false := by rw [← Bool.decide_and]; exact dcF fun h => hp.2.2.2.1 h.1 h.2
    have n5 : (decide (o = 2) && decide (q = 2)) = false := by rw [← Bool.decide_and]; exact dcF fun h => hp.2.2.2.2.1 h.1 h.2
    have n6 : (decide (o = 3) && decide (q = 2)) = false := by rw [← Bool.decide_and]; exact dcF fun h => hp.2.2.2.2.2 h.1 h.2
    simp only [n1, n2, n3, n4, n5, n6, cond_false]
def vals : GDirective → List Int := fun (o, q, i, f, t, s, e, r, p, u, v, x, y) =>
  if q = 1 then (if o = 1 then [i, f, t, s, e, r] else if o = 2 then [i] else [i, r]) else if o = 1 then [p, u, v, x, y] else if o = 2 then [p, u, v] else [p, u, v, y]
def tB (n : Int) : ByteArray := ofL (itoaK n)
def wordsB (d : GDirective) : List ByteArray := ofL (opB d.1) :: ofL (kdB d.2.1) :: (vals d).map tB
def mkD : Int × Int → List Int → GDirective
  | (1, 1), [a, b, c, d, e, f] => (1, 1, a, b, c, d, e, f, 0, 0, 0, 0, 0)
  | (2, 1), [a] => (2, 1, a, 0, 0, 0, 0, 0, 0, 0, 0, 0, 0)
  | (3, 1), [a, b] => (3, 1, a, 0, 0, 0, 0, b, 0, 0, 0, 0, 0)
  | (1, 2), [a, b, c, d, e] => (1, 2, 0, 0, 0, 0, 0, 0, a, b, c, d, e)
  | (2, 2), [a, b, c] => (2, 2, 0, 0, 0, 0, 0, 0, a, b, c, 0, 0)
  | (3, 2), [a, b, c, d] => (3, 2, 0, 0, 0, 0, 0, 0, a, b, c, 0, d)
  | _, _ => (0, 0, 0, 0, 0, 0, 0, 0, 0, 0, 0, 0, 0)
abbrev d0 : GDirective := (0, 0, 0, 0, 0, 0, 0, 0, 0, 0, 0, 0, 0)
def pn : List ByteArray → Option (List Int)
  | [] => some []
  | s :: r => match parseI s.data.toList 2147483647 with
    | (n, true) => (pn r).map (n :: ·)
    | (_, false) => none
def outD (d : GDirective) : GDirective × Int := bif dR d then (d, 0) else (d0, 1)
def parseB (l : List ByteArray) : GDirective × Int := match fKsG.find? (hit l) with
  | none => (d0, 2)
  | some p => bif decide ((l.length : Int) = 2 + nOf p) then (match pn (l.drop 2) with
    | none => (d0, 2)
    | some ns => outD (mkD p ns)) else (d0, 2)
theorem dR_pair {d : GDirective} (h : dR d = true) : (d.1, d.2.1) ∈ fKsG := by
  obtain ⟨o, q, i, f, t, s, e, r, p, u, v, x, y⟩ := d
  simp only [dR] at h
  refine Classical.byContradiction fun hp => ?_
  simp only [fKsG, List.mem_cons, List.not_mem_nil, or_false, Prod.mk.injEq, not_or, not_and] at hp
  unfold rightB at h
  by_cases q1 : q = 1
  · have h1 : o ≠ 1 := fun h => hp.1 h q1
    have h2 : o ≠ 2 := fun h => hp.2.1 h q1
    have h3 : o ≠ 3 := fun h => hp.2.2.1 h q1
    simp [q1, h1, h2, h3] at h
  · by_cases q2 : q = 2
    · have h1 : o ≠ 1 := fun h => hp.2.2.2.1 h q2
      have h2 : o ≠ 2 := fun h => hp.2.2.2.2.1 h q2
      have h3 : o ≠ 3 := fun h => hp.2.2.2.2.2 h q2
      simp [q2, h1, h2, h3] at h
    · simp [q1, q2] at h
theorem dR_shape {d : GDirective} (h : dR d = true) : mkD (d.1, d.2.1) (vals d) = d ∧ (∀ n ∈ vals d, 0 ≤ n ∧ n ≤ 2147483647) ∧ ((vals d).length : Int) = nOf (d.1, d.2.1) := by
  have hp := dR_pair h
  obtain ⟨o, q, i, f, t, s, e, r, p, u, v, x, y⟩ := d
  simp only [dR] at h
  simp only [fKsG, List.mem_cons, List.not_mem_nil, or_false, Prod.mk.injEq] at hp
  rcases hp with ⟨rfl, rfl⟩ | ⟨rfl, rfl⟩ | ⟨rfl, rfl⟩ | ⟨rfl, rfl⟩ | ⟨rfl, rfl⟩ | ⟨rfl, rfl⟩
  · simp [rightB, zR] at h
    obtain ⟨⟨rfl, rfl, rfl, rfl, rfl⟩, h⟩ := h
    simp only [cOk, decide_eq_true_eq] at h
    refine ⟨rfl, ?_, rfl⟩
    simp [vals]
    omega
  · simp [rightB, zR] at h
    obtain ⟨⟨rfl, rfl, rfl, rfl, rfl⟩, ⟨rfl, rfl, rfl, rfl, rfl⟩, h⟩ := h
    simp only [cOk, decide_eq_true_eq] at h
    refine ⟨rfl, ?_, rfl⟩
    simp [vals]
    omega
  · simp [rightB, zR] at h
    obtain ⟨⟨rfl, rfl, rfl, rfl, rfl⟩, ⟨rfl, rfl, rfl, rfl⟩, h⟩ := h
    simp only [cOk, decide_eq_true_eq] at h
    refine ⟨rfl, ?_, rfl⟩
    simp [vals]
    omega
  · simp [rightB, zC] at h
    obtain ⟨⟨rfl, rfl, rfl, rfl, rfl, rfl⟩, h⟩ := h
    simp only [rOk, decide_eq_true_eq] at h
    refine ⟨rfl, ?_, rfl⟩
    simp [vals]
    omega
  · simp [rightB, zC] at h
    obtain ⟨⟨rfl, rfl, rfl, rfl, rfl, rfl⟩, ⟨rfl, rfl⟩, h⟩ := h
    simp only [rOk, decide_eq_true_eq] at h
    refine ⟨rfl, ?_, rfl⟩
    simp [vals]
    omega
  · simp [rightB, zC] at h
    obtain ⟨⟨rfl, rfl, rfl, rfl, rfl, rfl⟩, rfl, h⟩ := h
    simp only [rOk, decide_eq_true_eq] at h
    refine ⟨rfl, ?_, rfl⟩
    simp [vals]
    omega
theorem tB_data {n : Int} (h0 : 0 ≤ n) (h1 : n ≤ 2147483647) : (tB n).data.toList = itoa n := by
  unfold tB
  rw [data_ofL, itoaK_eq (by omega) (by omega)]
theorem bytes_eq {a b : ByteArray} (h : a.data.toList = b.data.toList) : a = b := by rw [← ofL_data a, ← ofL_data b, h]
theorem pn_text : ∀ {l : List ByteArray} {ns : List Int}, pn l = some ns → l = ns.map tB ∧ ∀ n ∈ ns, 0 ≤ n ∧ n ≤ 2147483647
  | [], ns, h => by
    obtain rfl : [] = ns := Option.some.inj h
    exact ⟨rfl, fun n hn => by cases hn⟩
  | s :: r, ns, h => by
    rw [pn] at h
    cases hp : parseI s.data.toList 2147483647 with
    | mk n b =>
      rw [hp] at h
      cases b with
      | false => cases h
      | true =>
        obtain ⟨ms, h1, rfl⟩ := Option.map_eq_some_iff.1 h
        obtain ⟨g1, g2, g3, g4⟩ := parse_true hp
        obtain ⟨e1, e2⟩ := pn_text h1
        refine ⟨?_, fun m hm => ?_⟩
        · rw [List.map_cons, ← e1, show tB n = s from bytes_eq (by rw [tB_data g1 g2, g4])]
        · rcases List.mem_cons.1 hm with rfl | hm
          · exact ⟨g1, g2⟩
          · exact e2 m hm
theorem pn_len {l : List ByteArray} {ns : List Int} (h : pn l = some ns) : ns.length = l.length := by rw [(pn_text h).1]; simp
theorem nOf_pos (p : Int × Int) : 1 ≤ nOf p ∧ nOf p ≤ 6 := by unfold nOf; split <;> omega
theorem mkD_vals {p : Int × Int} (hp : p ∈ fKsG) {ns : List Int} (h : (ns.length : Int) = nOf p) : vals (mkD p ns) = ns ∧ (mkD p ns).1 = p.1 ∧ (mkD p ns).2.1 = p.2 := by
  simp only [fKsG, List.mem_cons, List.not_mem_nil, or_false] at hp
  rcases hp with rfl | rfl | rfl | rfl | rfl | rfl
  · match ns, (show ns.length = 6 from by simpa [nOf] using (by omega : (ns.length : Int) = 6 → ns.length = 6) h) with
    | [a, b, c, d, e, f], _ => exact ⟨rfl, rfl, rfl⟩
  · match ns, (show ns.length = 1 from by simpa [nOf] using (by omega : (ns.length : Int) = 1 → ns.length = 1) h) with
    | [a], _ => exact ⟨rfl, rfl, rfl⟩
  · match ns, (show ns.length = 2 from by simpa [nOf] using (by omega : (ns.length : Int) = 2 → ns.length = 2) h) with
    | [a, b], _ => exact ⟨rfl, rfl, rfl⟩
  · match ns, (show ns.length = 5 from by simpa [nOf] using (by omega : (ns.length : Int) = 5 → ns.length = 5) h) with
    | [a, b, c, d, e], _ => exact ⟨rfl, rfl, rfl⟩
  · match ns, (show ns.length = 3 from by simpa [nOf] using (by omega : (ns.length : Int) = 3 → ns.length = 3) h) with
    | [a, b, c], _ => exact ⟨rfl, rfl, rfl⟩
  · match ns, (show ns.length = 4 from by simpa [nOf] using (by omega : (ns.length : Int) = 4 → ns.length = 4) h) with
    | [a, b, c, d], _ => exact ⟨rfl, rfl, rfl⟩
theorem parse_cases (l : List ByteArray) : parseB l = (d0, 2) ∨ parseB l = (d0, 1) ∨ ∃ d, parseB l = (d, 0) ∧ dR d = true ∧ wordsB d = l := by
  cases hf : fKsG.find? (hit l) with
  | none => left; unfold parseB; rw [hf]
  | some p =>
    have hp := List.mem_of_find?_eq_some hf
    have hh := List.find?_some hf
    by_cases hl : (l.length : Int) = 2 + nOf p
    · cases hn : pn (l.drop 2) with
      | none => left; unfold parseB; rw [hf]; simp only [hn, dcT hl, cond_true]
      | some ns =>
        have hpos := nOf_pos p
        have hlen : (ns.length : Int) = nOf p := by rw [pn_len hn, List.length_drop]; omega
        obtain ⟨v1, v2, v3⟩ := mkD_vals hp hlen
        have he : parseB l = outD (mkD p ns) := by unfold parseB; rw [hf]; simp only [hn, dcT hl, cond_true]
        rw [he]
        unfold outD
        cases hr : dR (mkD p ns) with
        | false => right; left; rfl
        | true =>
          right; right
          refine ⟨mkD p ns, rfl, hr, ?_⟩
          simp only [hit, Bool.and_eq_true, beq_iff_eq] at hh
          obtain ⟨_, g1, g2⟩ := hh
          match l, hl, hn, g1, g2 with
          | [], hl, _, _, _ => simp at hl; omega
          | [a], hl, _, _, _ => simp at hl; omega
          | a :: b :: rest, hl, hn, g1, g2 =>
            simp only [List.drop_succ_cons, List.drop_zero] at hn
            simp only [List.getD_cons_zero, List.getD_cons_succ] at g1 g2
            unfold wordsB
            rw [v1, v2, v3, ← g1, ← g2, ofL_data, ofL_data, (pn_text hn).1]
    · left; unfold parseB; rw [hf]; simp only [dcF hl, cond_false]
end Ex.Tx
namespace Ex.Tx
open Go Go.RowKit Go.Lib Go.Proofs.YthlhbnaloefncaaGreatDoor.Dig
theorem num_Parse_sp (k : Nat) {s : ByteArray} (hs : s.size ≤ 9223372036854775807) : num_Parse k (s, 2147483647) = some (parseI s.data.toList 2147483647) := by
  unfold num_Parse
  rw [dcT hs]
  rfl
theorem e01 : w64 (0 + 1) = 1 := by decide
theorem e11 : w64 (1 + 1) = 2 := by decide
theorem e21 : w64 (2 + 1) = 3 := by decide
theorem e31 : w64 (3 + 1) = 4 := by decide
theorem e41 : w64 (4 + 1) = 5 := by decide
theorem e20 : w64 (2 + 0) = 2 := by decide
theorem e22 : w64 (2 + 2) = 4 := by decide
theorem e23 : w64 (2 + 3) = 5 := by decide
theorem e24 : w64 (2 + 4) = 6 := by decide
theorem e25 : w64 (2 + 5) = 7 := by decide
theorem pn_nil : pn [] = some [] := rfl
theorem pn_cons (s : ByteArray) (r : List ByteArray) : pn (s :: r) = bif (parseI s.data.toList 2147483647).2 then (pn r).map ((parseI s.data.toList 2147483647).1 :: ·) else none := by
  rw [pn]
  cases parseI s.data.toList 2147483647 with | mk n b => cases b <;> rfl
theorem parseI_64 {s : ByteArray} (h : (parseI s.data.toList 2147483647).2 = true) : In64 (parseI s.data.toList 2147483647).1 := by
  obtain ⟨h1, h2, _, _⟩ := parse_true (l := s.data.toList) (high := 2147483647) (n := (parseI s.data.toList 2147483647).1) (Prod.ext rfl h)
  exact ⟨by omega, by omega⟩
theorem zero64 : In64 0 := by constructor <;> decide
theorem outD_eq (k : Nat) {d : GDirective} (he : In64 d.2.2.2.2.2.2.1) (hx : In64 d.2.2.2.2.2.2.2.2.2.2.2.1) : ((direct_Right k d).bind fun b => bif b then some (d, (0 : Int)) else some (d0, 1)) = some (outD d) := by
  rw [right_sp k he hx]
  unfold outD
  cases dR d <;> rfl
theorem parse_sp (k : Nat) {l : List ByteArray} (hs : ∀ a ∈ l, a.size ≤ 9223372036854775807) : direct_Parse k l = some (parseB l) := by
  unfold direct_Parse direct_find parseB
  cases hf : fKsG.find? (hit l) with
  | none => rfl
  | some p =>
    have hp := List.mem_of_find?_eq_some hf
    clear hf
    simp only [Option.bind_some]
    by_cases hl : (l.length : Int) = 2 + nOf p
    · rw [dcT hl]
      simp only [fKsG, List.mem_cons, List.not_mem_nil, or_false] at hp
      rcases hp with rfl | rfl | rfl | rfl | rfl | rfl
      · match l, (show l.length = 8 from by simp only [nOf] at hl; omega), hs with
        | [a, b, c0, c1, c2, c3, c4, c5], _, hs =>
          have lens : ∀ z ∈ [c0, c1, c2, c3, c4, c5], ∀ h : Int, num_Parse k (z, 2147483647) = some (parseI z.data.toList 2147483647) := fun z hz _ => num_Parse_sp k (hs z (by simp at hz ⊢; right; right; exact hz))
          simp only [(by decide : decide ((2 : Int) < ((8 : Nat) : Int)) = true), (by decide : decide ((3 : Int) < ((8 : Nat) : Int)) = true), (by decide : decide ((4 : Int) < ((8 : Nat) : Int)) = true), (by decide : decide ((5 : Int) < ((8 : Nat) : Int)) = true), (by decide : decide ((6 : Int) < ((8 : Nat) : Int)) = true), (by decide : decide ((7 : Int) < ((8 : Nat) : Int)) = true), e01, e11, e21, e31, e41, e20, e22, e23, e24, e25, Int.ofNat_eq_natCast, List.length_cons, List.length_nil, cond_true, Option.bind_some, List.getD_cons_succ, List.getD_cons_zero, List.drop_succ_cons, List.drop_zero, Int.reduceToNat, Nat.reduceAdd, decide_true, decide_false, Int.reduceLT, Int.reduceEq, Bool.and_self, Bool.and_true, Bool.and_false, cond_false, lens c0 (by simp) 0, lens c1 (by simp) 0, lens c2 (by simp) 0, lens c3 (by simp) 0, lens c4 (by simp) 0, lens c5 (by simp) 0, pn_cons, pn_nil]
          cases h0 : (parseI c0.data.toList 2147483647).2 with
          | false => simp only [h0, cond_false, cond_true, Option.map_none, Option.map_some]
          | true =>
            cases h1 : (parseI c1.data.toList 2147483647).2 with
            | false => simp only [h0, h1, cond_false, cond_true, Option.map_none, Option.map_some]
            | true =>
              cases h2 : (parseI c2.data.toList 2147483647).2 with
              | false => simp only [h0, h1, h2, cond_false, cond_true, Option.map_none, Option.map_some]
              | true =>
                cases h3 : (parseI c3.data.toList 2147483647).2 with
                | false => simp only [h0, h1, h2, h3, cond_false, cond_true, Option.map_none, Option.map_some]
                | true =>
                  cases h4 : (parseI c4.data.toList 2147483647).2 with
                  | false => simp only [h0, h1, h2, h3, h4, cond_false, cond_true, Option.map_none, Option.map_some]
                  | true =>
                    cases h5 : (parseI c5.data.toList 2147483647).2 with
                    | false => simp only [h0, h1, h2, h3, h4, h5, cond_false, cond_true, Option.map_none, Option.map_some]
                    | true =>
                      simp only [cond_true, Option.map_some]
                      exact outD_eq k (parseI_64 h4) zero64
      · match l, (show l.length = 3 from by simp only [nOf] at hl; omega), hs with
        | [a, b, c0], _, hs =>
          have lens : ∀ z ∈ [c0], ∀ h : Int, num_Parse k (z, 2147483647) = some (parseI z.data.toList 2147483647) := fun z hz _ => num_Parse_sp k (hs z (by simp at hz ⊢; right; right; exact hz))
          simp only [(by decide : decide ((2 : Int) < ((3 : Nat) : Int)) = true), e01, e11, e21, e31, e41, e20, e22, e23, e24, e25, Int.ofNat_eq_natCast, List.length_cons, List.length_nil, cond_true, Option.bind_some, List.getD_cons_succ, List.getD_cons_zero, List.drop_succ_cons, List.drop_zero, Int.reduceToNat, Nat.reduceAdd, decide_true, decide_false, Int.reduceLT, Int.reduceEq, Bool.and_self, Bool.and_true, Bool.and_false, cond_false, lens c0 (by simp) 0, pn_cons, pn_nil]
          cases h0 : (parseI c0.data.toList 2147483647).2 with
          | false => simp only [h0, cond_false, cond_true, Option.map_none, Option.map_some]
          | true =>
            simp only [cond_true, Option.map_some]
            exact outD_eq k zero64 zero64
      · match l, (show l.length = 4 from by simp only [nOf] at hl; omega), hs with
        | [a, b, c0, c1], _, hs =>
          have lens : ∀ z ∈ [c0, c1], ∀ h : Int, num_Parse k (z, 2147483647) = some (parseI z.data.toList 2147483647) := fun z hz _ => num_Parse_sp k (hs z (by simp at hz ⊢; right; right; exact hz))
          simp only [(by decide : decide ((2 : Int) < ((4 : Nat) : Int)) = true), (by decide : decide ((3 : Int) < ((4 : Nat) : Int)) = true), e01, e11, e21, e31, e41, e20, e22, e23, e24, e25, Int.ofNat_eq_natCast, List.length_cons, List.length_nil, cond_true, Option.bind_some, List.getD_cons_succ, List.getD_cons_zero, List.drop_succ_cons, List.drop_zero, Int.reduceToNat, Nat.reduceAdd, decide_true, decide_false, Int.reduceLT, Int.reduceEq, Bool.and_self, Bool.and_true, Bool.and_false, cond_false, lens c0 (by simp) 0, lens c1 (by simp) 0, pn_cons, pn_nil]
          cases h0 : (parseI c0.data.toList 2147483647).2 with
          | false => simp only [h0, cond_false, cond_true, Option.map_none, Option.map_some]
          | true =>
            cases h1 : (parseI c1.data.toList 2147483647).2 with
            | false => simp only [h0, h1, cond_false, cond_true, Option.map_none, Option.map_some]
            | true =>
              simp only [cond_true, Option.map_some]
              exact outD_eq k zero64 zero64
      · match l, (show l.length = 7 from by simp only [nOf] at hl; omega), hs with
        | [a, b, c0, c1, c2, c3, c4], _, hs =>
          have lens : ∀ z ∈ [c0, c1, c2, c3, c4], ∀ h : Int, num_Parse k (z, 2147483647) = some (parseI z.data.toList 2147483647) := fun z hz _ => num_Parse_sp k (hs z (by simp at hz ⊢; right; right; exact hz))
          simp only [(by decide : decide ((2 : Int) < ((7 : Nat) : Int)) = true), (by decide : decide ((3 : Int) < ((7 : Nat) : Int)) = true), (by decide : decide ((4 : Int) < ((7 : Nat) : Int)) = true), (by decide : decide ((5 : Int) < ((7 : Nat) : Int)) = true), (by decide : decide ((6 : Int) < ((7 : Nat) : Int)) = true), e01, e11, e21, e31, e41, e20, e22, e23, e24, e25, Int.ofNat_eq_natCast, List.length_cons, List.length_nil, cond_true, Option.bind_some, List.getD_cons_succ, List.getD_cons_zero, List.drop_succ_cons, List.drop_zero, Int.reduceToNat, Nat.reduceAdd, decide_true, decide_false, Int.reduceLT, Int.reduceEq, Bool.and_self, Bool.and_true, Bool.and_false, cond_false, lens c0 (by simp) 0, lens c1 (by simp) 0, lens c2 (by simp) 0, lens c3 (by simp) 0, lens c4 (by simp) 0, pn_cons, pn_nil]
          cases h0 : (parseI c0.data.toList 2147483647).2 with
          | false => simp only [h0, cond_false, cond_true, Option.map_none, Option.map_some]
          | true =>
            cases h1 : (parseI c1.data.toList 2147483647).2 with
            | false => simp only [h0, h1, cond_false, cond_true, Option.map_none, Option.map_some]
            | true =>
              cases h2 : (parseI c2.data.toList 2147483647).2 with
              | false => simp only [h0, h1, h2, cond_false, cond_true, Option.map_none, Option.map_some]
              | true =>
                cases h3 : (parseI c3.data.toList 2147483647).2 with
                | false => simp only [h0, h1, h2, h3, cond_false, cond_true, Option.map_none, Option.map_some]
                | true =>
                  cases h4 : (parseI c4.data.toList 2147483647).2 with
                  | false => simp only [h0, h1, h2, h3, h4, cond_false, cond_true, Option.map_none, Option.map_some]
                  | true =>
                    simp only [cond_true, Option.map_some]
                    exact outD_eq k zero64 (parseI_64 h3)
      · match l, (show l.length = 5 from by simp only [nOf] at hl; omega), hs with
        | [a, b, c0, c1, c2], _, hs =>
          have lens : ∀ z ∈ [c0, c1, c2], ∀ h : Int, num_Parse k (z, 2147483647) = some (parseI z.data.toList 2147483647) := fun z hz _ => num_Parse_sp k (hs z (by simp at hz ⊢; right; right; exact hz))
          simp only [(by decide : decide ((2 : Int) < ((5 : Nat) : Int)) = true), (by decide : decide ((3 : Int) < ((5 : Nat) : Int)) = true), (by decide : decide ((4 : Int) < ((5 : Nat) : Int)) = true), e01, e11, e21, e31, e41, e20, e22, e23, e24, e25, Int.ofNat_eq_natCast, List.length_cons, List.length_nil, cond_true, Option.bind_some, List.getD_cons_succ, List.getD_cons_zero, List.drop_succ_cons, List.drop_zero, Int.reduceToNat, Nat.reduceAdd, decide_true, decide_false, Int.reduceLT, Int.reduceEq, Bool.and_self, Bool.and_true, Bool.and_false, cond_false, lens c0 (by simp) 0, lens c1 (by simp) 0, lens c2 (by simp) 0, pn_cons, pn_nil]
          cases h0 : (parseI c0.data.toList 2147483647).2 with
          | false => simp only [h0, cond_false, cond_true, Option.map_none, Option.map_some]
          | true =>
            cases h1 : (parseI c1.data.toList 2147483647).2 with
            | false => simp only [h0, h1, cond_false, cond_true, Option.map_none, Option.map_some]
            | true =>
              cases h2 : (parseI c2.data.toList 2147483647).2 with
              | false => simp only [h0, h1, h2, cond_false, cond_true, Option.map_none, Option.map_some]
              | true =>
                simp only [cond_true, Option.map_some]
                exact outD_eq k zero64 zero64
      · match l, (show l.length = 6 from by simp only [nOf] at hl; omega), hs with
        | [a, b, c0, c1, c2, c3], _, hs =>
          have lens : ∀ z ∈ [c0, c1, c2, c3], ∀ h : Int, num_Parse k (z, 2147483647) = some (parseI z.data.toList 2147483647) := fun z hz _ => num_Parse_sp k (hs z (by simp at hz ⊢; right; right; exact hz))
          simp only [(by decide : decide ((2 : Int) < ((6 : Nat) : Int)) = true), (by decide : decide ((3 : Int) < ((6 : Nat) : Int)) = true), (by decide : decide ((4 : Int) < ((6 : Nat) : Int)) = true), (by decide : decide ((5 : Int) < ((6 : Nat) : Int)) = true), e01, e11, e21, e31, e41, e20, e22, e23, e24, e25, Int.ofNat_eq_natCast, List.length_cons, List.length_nil, cond_true, Option.bind_some, List.getD_cons_succ, List.getD_cons_zero, List.drop_succ_cons, List.drop_zero, Int.reduceToNat, Nat.reduceAdd, decide_true, decide_false, Int.reduceLT, Int.reduceEq, Bool.and_self, Bool.and_true, Bool.and_false, cond_false, lens c0 (by simp) 0, lens c1 (by simp) 0, lens c2 (by simp) 0, lens c3 (by simp) 0, pn_cons, pn_nil]
          cases h0 : (parseI c0.data.toList 2147483647).2 with
          | false => simp only [h0, cond_false, cond_true, Option.map_none, Option.map_some]
          | true =>
            cases h1 : (parseI c1.data.toList 2147483647).2 with
            | false => simp only [h0, h1, cond_false, cond_true, Option.map_none, Option.map_some]
            | true =>
              cases h2 : (parseI c2.data.toList 2147483647).2 with
              | false => simp only [h0, h1, h2, cond_false, cond_true, Option.map_none, Option.map_some]
              | true =>
                cases h3 : (parseI c3.data.toList 2147483647).2 with
                | false => simp only [h0, h1, h2, h3, cond_false, cond_true, Option.map_none, Option.map_some]
                | true =>
                  simp only [cond_true, Option.map_some]
                  exact outD_eq k zero64 zero64
    · rw [dcF hl]
      rfl
end Ex.Tx
namespace Ex.Tx
open Go Go.RowKit Go.Lib Go.Proofs.YthlhbnaloefncaaGreatDoor.Wrd
theorem ofL_size (l : List UInt8) : (ofL l).size = l.length := by simp [ofL, ByteArray.size]
theorem ba_app (l m : List UInt8) : (⟨l.toArray⟩ : ByteArray) ++ (⟨m.toArray⟩ : ByteArray) = ⟨(l ++ m).toArray⟩ := by
  apply ByteArray.ext
  simp [ByteArray.data_append]
theorem ofL_append (a b : List UInt8) : ofL a ++ ofL b = ofL (a ++ b) := ba_app a b
theorem drop_at (s : ByteArray) (i : Nat) (h : i < s.size) : s.data.toList.drop i = (s[i]'h) :: s.data.toList.drop (i + 1) := by
  rw [List.drop_eq_getElem_cons (by simpa using h)]; rfl
theorem byte_is {c : UInt8} {n : Nat} (hn : n < 256) : ((c.toNat : Int) = (n : Int)) ↔ c = UInt8.ofNat n := by
  constructor
  · intro h
    have h' : c.toNat = n := by omega
    rw [← h', UInt8.ofNat_toNat]
  · rintro rfl
    simp [UInt8.toNat_ofNat', Nat.mod_eq_of_lt hn]
theorem splitF_run : ∀ (m l : List UInt8), (∀ c ∈ m, c ≠ 10) → splitF (m ++ 10 :: l) = m :: splitF l
  | [], l, _ => by simp [splitF]
  | c :: m, l, h => by
    have hc : c ≠ 10 := h c List.mem_cons_self
    rw [List.cons_append]
    show (if c = 10 then [] :: splitF (m ++ 10 :: l) else match splitF (m ++ 10 :: l) with | [] => [[c]] | x :: r => (c :: x) :: r) = _
    rw [if_neg hc, splitF_run m l (fun d hd => h d (List.mem_cons_of_mem _ hd))]
theorem splitF_one (m : List UInt8) (h : ∀ c ∈ m, c ≠ 10) : splitF m = [m] := by
  induction m with
  | nil => rfl
  | cons c m ih =>
    have hc : c ≠ 10 := h c List.mem_cons_self
    unfold splitF
    rw [if_neg hc, ih (fun d hd => h d (List.mem_cons_of_mem _ hd))]
def cat (l : List (List UInt8)) : List UInt8 := l.flatMap fun x => x ++ [10]
theorem cat_split : ∀ (m : List UInt8), cat (splitF m) = m ++ [10]
  | [] => rfl
  | c :: m => by
    have ih := cat_split m
    unfold splitF
    by_cases hc : c = 10
    · rw [if_pos hc]; subst hc
      show [10] ++ cat (splitF m) = _
      rw [ih]; rfl
    · rw [if_neg hc]
      cases h : splitF m with
      | nil => exact absurd h (splitF_ne m)
      | cons x r =>
        rw [h] at ih
        show (c :: x) ++ [10] ++ cat r = _
        have : cat (x :: r) = x ++ [10] ++ cat r := rfl
        rw [this] at ih
        simp only [List.cons_append]
        rw [ih]
theorem trimF_snoc (m : List UInt8) : trimF (m ++ [10]) = m := by unfold trimF; simp
theorem cat_lines (s : List UInt8) : cat (linesL s) = s ∨ cat (linesL s) = s ++ [10] := by
  unfold linesL
  split
  · rename_i h; left; rw [h]; rfl
  · rename_i h
    unfold trimF
    split
    · rename_i h2
      left
      rw [cat_split]
      obtain ⟨m, hm⟩ := List.getLast?_eq_some_iff.1 h2
      rw [hm]; simp
    · right; exact cat_split s
theorem split_len : ∀ (m : List UInt8), (splitF m).length ≤ m.length + 1
  | [] => by simp [splitF]
  | c :: m => by
    have ih := split_len m
    unfold splitF
    split
    · simp only [List.length_cons]; omega
    · cases h : splitF m with
      | nil => simp
      | cons x r => rw [h] at ih; simp only [List.length_cons] at ih ⊢; omega
theorem lines_len (s : List UInt8) : (linesL s).length ≤ s.length + 1 := by
  unfold linesL
  split
  · simp
  · have h1 := split_len (trimF s)
    have h2 : (trimF s).length ≤ s.length := by unfold trimF; split <;> simp
    omega
def lgo : List UInt8 → List UInt8 → List (List UInt8)
  | [], cur => if cur = [] then [] else [cur]
  | c :: l, cur => if c = 10 then cur :: lgo l [] else lgo l (cur ++ [c])
theorem lgo_cur : ∀ (l cur : List UInt8), (cur ≠ [] ∨ l ≠ []) → (∀ c ∈ cur, c ≠ 10) → lgo l cur = splitF (trimF (cur ++ l))
  | [], cur, h, hc => by
    have hne : cur ≠ [] := by rcases h with h | h <;> simp_all
    unfold lgo
    have : trimF (cur ++ []) = cur := by
      unfold trimF
      rw [List.append_nil]
      split
      · rename_i h2
        exact absurd rfl (hc 10 (List.mem_of_getLast? h2))
      · rfl
    rw [if_neg hne, this, splitF_one cur hc]
  | c :: l, cur, h, hc => by
    unfold lgo
    by_cases h10 : c = 10
    · subst h10
      rw [if_pos rfl]
      by_cases hl : l = []
      · subst hl
        rw [trimF_snoc, splitF_one cur hc]; rfl
      · rw [lgo_cur l [] (.inr hl) (fun c hc => by cases hc)]
        have e : trimF (cur ++ 10 :: l) = cur ++ 10 :: trimF l := by
          unfold trimF
          have e1 : (cur ++ 10 :: l).getLast? = l.getLast? := by
            cases l with
            | nil => exact absurd rfl hl
            | cons x l => rw [List.getLast?_append, List.getLast?_cons_cons, List.getLast?_cons]; rfl
          rw [e1]
          split
          · rw [List.dropLast_append_of_ne_nil (by simp), List.dropLast_cons_of_ne_nil hl]
          · rfl
        rw [e, splitF_run cur _ hc]; rfl
    · rw [if_neg h10, lgo_cur l (cur ++ [c]) (.inl (by simp)) (fun d hd => by
        rcases List.mem_append.1 hd with hd | hd
        · exact hc d hd
        · rw [List.mem_singleton] at hd; subst hd; exact h10)]
      simp
theorem lgo_lines (s : List UInt8) : lgo s [] = linesL s := by
  unfold linesL
  split
  · rename_i h; subst h; rfl
  · rename_i h
    exact lgo_cur s [] (.inr h) (fun c hc => by cases hc)
theorem wgo_len : ∀ (l cur : List UInt8), (wgo l cur).length ≤ l.length + 1
  | [], cur => by unfold wgo; split <;> simp
  | c :: l, cur => by
    have h1 := wgo_len l []
    have h2 := wgo_len l (cur ++ [c])
    unfold wgo
    split
    · split
      · simp only [List.length_cons]; omega
      · simp only [List.length_cons]; omega
    · simp only [List.length_cons]; omega
theorem words_len (l : List UInt8) : (wordsL l).length ≤ l.length + 1 := by
  have h := wgo_len (bare l) []
  have h2 : (bare l).length ≤ l.length := (List.takeWhile_sublist _).length_le
  unfold wordsL; omega
theorem wgo_total : ∀ (l cur : List UInt8), ∀ x ∈ wgo l cur, x.length ≤ l.length + cur.length
  | [], cur, x, hx => by
    unfold wgo at hx
    split at hx
    · simp at hx
    · rw [List.mem_singleton] at hx; subst hx; simp
  | c :: l, cur, x, hx => by
    simp only [wgo] at hx
    split at hx
    · split at hx
      · have := wgo_total l [] x hx; simp at this ⊢; omega
      · rcases List.mem_cons.1 hx with rfl | hx
        · simp
        · have := wgo_total l [] x hx; simp at this ⊢; omega
    · have := wgo_total l _ x hx; simp at this ⊢; omega
theorem words_size (l : List UInt8) : ∀ x ∈ wordsL l, x.length ≤ l.length := by
  intro x hx
  have h := wgo_total _ _ x hx
  have h2 : (bare l).length ≤ l.length := (List.takeWhile_sublist _).length_le
  simp at h; omega
end Ex.Tx
namespace Ex.Tx
open Go Go.RowKit Go.Lib Go.Proofs.YthlhbnaloefncaaGreatDoor.Wrd Go.Proofs.YthlhbnaloefncaaGreatDoor.Dig
theorem getD_nat {α : Type} (l : List α) (z : α) {j : Nat} (h : j < l.length) : l.getD ((j : Int)).toNat z = l[j] := by
  rw [Int.toNat_natCast, List.getD_eq_getElem?_getD, List.getElem?_eq_getElem h]; rfl
theorem lt_yes {i n : Nat} (h : i < n) : decide ((i : Int) < Int.ofNat n) = true := dcT (by simpa using h)
theorem lt_no {i n : Nat} (h : n ≤ i) : decide ((i : Int) < Int.ofNat n) = false := dcF (by simp; omega)
theorem ge0 (i : Nat) : decide ((0 : Int) ≤ (i : Int)) = true := dcT (by omega)
theorem w64_succ {i : Nat} (h : i ≤ 4611686018427387904) : w64 ((i : Int) + 1) = ((i + 1 : Nat) : Int) := by
  rw [w64' ⟨by omega, by omega⟩]; omega
theorem words_Words_sp (k : Nat) {l : List UInt8} (h : l.length < 4294967281) : words_Words k (ofL l) = some ((wordsL l).map ofL) := by
  unfold words_Words
  rw [dcT (by rw [ofL_size]; exact h), data_ofL]
  rfl
theorem words_Lines_sp (k : Nat) {s : ByteArray} (h : s.size < 4294967281) : words_Lines k s = some ((linesL s.data.toList).map ofL) := by
  unfold words_Lines
  rw [dcT h]
  rfl
def rowsF : Int → List (List UInt8) → List (Int × List ByteArray)
  | _, [] => []
  | i, x :: r => bif (wordsL x).isEmpty then rowsF (i + 1) r else (i, (wordsL x).map ofL) :: rowsF (i + 1) r
def rowsT (s : List UInt8) : List (Int × List ByteArray) := rowsF 1 (linesL s)
theorem rows_L0 (M : List (List UInt8)) (hM : M.length ≤ 1000000) (hs : ∀ x ∈ M, x.length ≤ 1000000) : ∀ (n i k : Nat) (out : List (Int × List ByteArray)), i + n = M.length → n < k → out.length ≤ i →
    text_rows_L0 k (out, M.map ofL, Int.ofNat (M.map ofL).length, (i : Int)) = some (.inl (out ++ rowsF ((i + 1 : Nat) : Int) (M.drop i)))
  | 0, i, k, out, h, hk, ho => by
    obtain ⟨k, rfl⟩ : ∃ m, k = m + 1 := ⟨k - 1, by omega⟩
    rw [text_rows_L0, lt_no (by rw [List.length_map]; omega), List.drop_eq_nil_of_le (by omega)]
    simp [rowsF]
  | n + 1, i, k, out, h, hk, ho => by
    obtain ⟨k, rfl⟩ : ∃ m, k = m + 1 := ⟨k - 1, by omega⟩
    have hi : i < M.length := by omega
    have hi' : i < (M.map ofL).length := by rw [List.length_map]; exact hi
    have hx := hs M[i] (List.getElem_mem hi)
    rw [text_rows_L0, lt_yes hi', ge0, getD_nat _ _ hi', List.getElem_map, words_Words_sp k (by omega), w64_succ (by omega), List.drop_eq_getElem_cons hi]
    simp only [cond_true, Option.bind_some, rowsF]
    cases hw : wordsL M[i] with
    | nil =>
      simp only [List.map_nil, List.length_nil, List.isEmpty_nil, cond_true]
      rw [show decide ((0 : Int) < Int.ofNat 0) = false from rfl, cond_false, rows_L0 M hM hs n (i + 1) k out (by omega) (by omega) (by omega)]
      rw [show (((i + 1 : Nat) : Int) + 1) = ((i + 1 + 1 : Nat) : Int) by omega]
    | cons w ws =>
      simp only [List.map_cons, List.length_cons, List.isEmpty_cons, cond_false]
      rw [show decide ((0 : Int) < Int.ofNat ((ws.map ofL).length + 1)) = true from dcT (by simp <;> omega), cond_true, dcT (by simp <;> omega), cond_true, rows_L0 M hM hs n (i + 1) k _ (by omega) (by omega) (by simp; omega)]
      rw [show (((i + 1 : Nat) : Int) + 1) = ((i + 1 + 1 : Nat) : Int) by omega]
      simp
theorem lines_each (s : List UInt8) : ∀ x ∈ linesL s, x.length ≤ s.length := by
  intro x hx
  have h : x.length + 1 ≤ (cat (linesL s)).length := by
    have : ∀ (L : List (List UInt8)), x ∈ L → x.length + 1 ≤ (cat L).length := by
      intro L
      induction L with
      | nil => intro h; cases h
      | cons y r ih =>
        intro h
        have e : (cat (y :: r)).length = y.length + 1 + (cat r).length := by simp [cat]; omega
        rcases List.mem_cons.1 h with rfl | h
        · omega
        · have := ih h; omega
    exact this _ hx
  rcases cat_lines s with h2 | h2 <;> rw [h2] at h
  · omega
  · simp at h; omega
theorem rows_sp (k : Nat) {s : ByteArray} (hs : s.size ≤ 900000) (hk : s.size + 2 < k) : text_rows k s = some (rowsT s.data.toList) := by
  have e : s.data.toList.length = s.size := by rw [Array.length_toList]; rfl
  have h1 := lines_len s.data.toList
  unfold text_rows
  rw [words_Lines_sp k (by omega), Option.bind_some, show (0 : Int) = ((0 : Nat) : Int) from rfl, rows_L0 (linesL s.data.toList) (by omega) (fun x hx => by have := lines_each _ x hx; omega) (linesL s.data.toList).length 0 k [] (by omega) (by omega) (by simp)]
  rfl
def parseS : List (Int × List ByteArray) → List GDirective → ((Int × Int) × List GDirective) ⊕ (List GDirective × (Int × Int))
  | [], acc => .inl ((0, 0), acc)
  | x :: r, acc => bif decide ((parseB x.2).2 = 0) then parseS r (acc ++ [(parseB x.2).1]) else .inr ([], (x.1, (parseB x.2).2))
def parseR (R : List (Int × List ByteArray)) : List GDirective × (Int × Int) := match parseS R [] with
  | .inl o => (o.2, (0, 0))
  | .inr o => o
theorem parse_L0 (R : List (Int × List ByteArray)) (hR : R.length ≤ 1000000) (hs : ∀ x ∈ R, ∀ a ∈ x.2, a.size ≤ 9223372036854775807) : ∀ (n i k : Nat) (acc : List GDirective), i + n = R.length → n < k → acc.length ≤ i →
    text_Parse_L0 k ((0, 0), acc, R, Int.ofNat R.length, (i : Int)) = some (parseS (R.drop i) acc)
  | 0, i, k, acc, h, hk, ho => by
    obtain ⟨k, rfl⟩ : ∃ m, k = m + 1 := ⟨k - 1, by omega⟩
    rw [text_Parse_L0, lt_no (by omega), List.drop_eq_nil_of_le (by omega)]
    rfl
  | n + 1, i, k, acc, h, hk, ho => by
    obtain ⟨k, rfl⟩ : ∃ m, k = m + 1 := ⟨k - 1, by omega⟩
    have hi : i < R.length := by omega
    rw [text_Parse_L0, lt_yes hi, ge0, getD_nat _ _ hi, parse_sp k (hs R[i] (List.getElem_mem hi)), w64_succ (by omega), List.drop_eq_getElem_cons hi]
    simp only [cond_true, Option.bind_some, parseS]
    cases hd : decide ((parseB R[i].2).2 = 0) with
    | false => rfl
    | true =>
      simp only [Bool.not_true, cond_false, cond_true]
      rw [dcT (by simp; omega), cond_true, parse_L0 R hR hs n (i + 1) k _ (by omega) (by omega) (by simp; omega)]
theorem rowsF_len : ∀ (i : Int) (M : List (List UInt8)), (rowsF i M).length ≤ M.length
  | _, [] => Nat.le_refl _
  | i, x :: r => by
    have := rowsF_len (i + 1) r
    simp only [rowsF]
    cases (wordsL x).isEmpty <;> simp <;> omega
theorem rowsF_mem : ∀ (i : Int) (M : List (List UInt8)) (x : Int × List ByteArray), x ∈ rowsF i M → ∃ (j : Nat) (y : List UInt8), M[j]? = some y ∧ x = (i + (j : Int), (wordsL y).map ofL) ∧ wordsL y ≠ []
  | _, [], x, h => by cases h
  | i, y :: r, x, h => by
    simp only [rowsF] at h
    cases hw : (wordsL y).isEmpty with
    | true =>
      rw [hw] at h
      obtain ⟨j, z, h1, h2, h3⟩ := rowsF_mem (i + 1) r x h
      exact ⟨j + 1, z, by simpa using h1, by rw [h2]; simp; omega, h3⟩
    | false =>
      rw [hw] at h
      rcases List.mem_cons.1 h with rfl | h
      · exact ⟨0, y, rfl, by simp, by intro e; rw [e] at hw; simp at hw⟩
      · obtain ⟨j, z, h1, h2, h3⟩ := rowsF_mem (i + 1) r x h
        exact ⟨j + 1, z, by simpa using h1, by rw [h2]; simp; omega, h3⟩
theorem rowsT_size (s : List UInt8) (hs : s.length ≤ 900000) : ∀ x ∈ rowsT s, ∀ a ∈ x.2, a.size ≤ 900000 := by
  intro x hx a ha
  obtain ⟨j, y, h1, rfl, _⟩ := rowsF_mem 1 _ x hx
  obtain ⟨w, hw, rfl⟩ := List.mem_map.1 ha
  rw [ofL_size]
  have := words_size y w hw
  have := lines_each s y (List.mem_of_getElem? h1)
  omega
def parseT (s : List UInt8) : List GDirective × (Int × Int) := parseR (rowsT s)
theorem text_Parse_sp (k : Nat) {s : ByteArray} (hs : s.size ≤ 900000) (hk : s.size + 2 < k) : text_Parse k s = some (parseT s.data.toList) := by
  have e : s.data.toList.length = s.size := by rw [Array.length_toList]; rfl
  have h1 := lines_len s.data.toList
  have h2 : (rowsT s.data.toList).length ≤ (linesL s.data.toList).length := rowsF_len _ _
  unfold text_Parse
  rw [rows_sp k hs hk, Option.bind_some, show (0 : Int) = ((0 : Nat) : Int) from rfl]
  have := parse_L0 (rowsT s.data.toList) (by omega) (fun x hx a ha => by have := rowsT_size _ (by omega) x hx a ha; omega) (rowsT s.data.toList).length 0 k [] (by omega) (by omega) (by simp)
  rw [show ((0, 0) : Int × Int) = (((0 : Nat) : Int), ((0 : Nat) : Int)) from rfl] at this
  rw [this, List.drop_zero, Option.bind_some]
  unfold parseT parseR
  cases parseS (rowsT s.data.toList) [] <;> rfl
theorem lines_L0 (R : List (Int × List ByteArray)) (hR : R.length ≤ 1000000) : ∀ (n i k : Nat) (acc : List Int), i + n = R.length → n < k → acc.length ≤ i →
    text_Lines_L0 k (acc, R, Int.ofNat R.length, (i : Int)) = some (.inl (acc ++ (R.drop i).map (·.1)))
  | 0, i, k, acc, h, hk, ho => by
    obtain ⟨k, rfl⟩ : ∃ m, k = m + 1 := ⟨k - 1, by omega⟩
    rw [text_Lines_L0, lt_no (by omega), List.drop_eq_nil_of_le (by omega)]
    simp
  | n + 1, i, k, acc, h, hk, ho => by
    obtain ⟨k, rfl⟩ : ∃ m, k = m + 1 := ⟨k - 1, by omega⟩
    have hi : i < R.length := by omega
    rw [text_Lines_L0, lt_yes hi, ge0, getD_nat _ _ hi, w64_succ (by omega), List.drop_eq_getElem_cons hi]
    simp only [cond_true, List.map_cons]
    rw [dcT (by simp; omega), cond_true, lines_L0 R hR n (i + 1) k _ (by omega) (by omega) (by simp; omega)]
    simp
theorem text_Lines_sp (k : Nat) {s : ByteArray} (hs : s.size ≤ 900000) (hk : s.size + 2 < k) : text_Lines k s = some ((rowsT s.data.toList).map (·.1)) := by
  have e : s.data.toList.length = s.size := by rw [Array.length_toList]; rfl
  have h1 := lines_len s.data.toList
  have h2 : (rowsT s.data.toList).length ≤ (linesL s.data.toList).length := rowsF_len _ _
  unfold text_Lines
  rw [rows_sp k hs hk, Option.bind_some, show (0 : Int) = ((0 : Nat) : Int) from rfl, lines_L0 (rowsT s.data.toList) (by omega) (rowsT s.data.toList).length 0 k [] (by omega) (by omega) (by simp)]
  simp
end Ex.Tx
namespace Ex
open Go Go.RowKit Go.Proofs.YthlhbnaloefncaaGreatDoor.Wrd
theorem right_rng {d : GDirective} (h : Tx.dR d = true) : rngD d := by
  obtain ⟨h1, h2, h3⟩ := Tx.dR_shape h
  have hp := Tx.dR_pair h
  obtain ⟨o, q, i, f, t, s, e, r, p, u, v, x, y⟩ := d
  simp only [fKsG, List.mem_cons, List.not_mem_nil, or_false, Prod.mk.injEq] at hp
  rcases hp with ⟨rfl, rfl⟩ | ⟨rfl, rfl⟩ | ⟨rfl, rfl⟩ | ⟨rfl, rfl⟩ | ⟨rfl, rfl⟩ | ⟨rfl, rfl⟩ <;>
    simp [Tx.vals, Tx.mkD] at h1 h2 <;> refine ⟨⟨⟨?_, ?_⟩, ⟨?_, ?_⟩⟩, ⟨⟨?_, ?_⟩, ⟨?_, ?_⟩⟩⟩ <;> simp only [dC, dR] <;> omega
theorem parseS_ok : ∀ (A : List (Int × List ByteArray)) (acc : List GDirective), (∀ d ∈ acc, Tx.dR d = true) → match Tx.parseS A acc with
    | .inl o => o.1 = (0, 0) ∧ o.2.length = acc.length + A.length ∧ ∀ d ∈ o.2, Tx.dR d = true
    | .inr o => o.2.2 ≠ 0
  | [], acc, ha => ⟨rfl, rfl, ha⟩
  | x :: r, acc, ha => by
    rw [Tx.parseS]
    rcases Tx.parse_cases x.2 with h | h | ⟨d, h, hd, _⟩
    · rw [h]; exact (by decide : (2 : Int) ≠ 0)
    · rw [h]; exact (by decide : (1 : Int) ≠ 0)
    · rw [h]
      have ih := parseS_ok r (acc ++ [d]) (fun y hy => by
        rcases List.mem_append.1 hy with hy | hy
        · exact ha y hy
        · rw [List.mem_singleton.1 hy]; exact hd)
      show match Tx.parseS r (acc ++ [d]) with | .inl o => _ | .inr o => _
      generalize Tx.parseS r (acc ++ [d]) = z at ih ⊢
      cases z with
      | inl o => exact ⟨ih.1, by rw [ih.2.1, List.length_append, List.length_singleton, List.length_cons]; omega, ih.2.2⟩
      | inr o => exact ih
theorem parseT_good {s : List UInt8} (h : (Tx.parseT s).2.2 = 0) : (Tx.parseT s).1.length = (Tx.rowsT s).length ∧ ∀ d ∈ (Tx.parseT s).1, Tx.dR d = true := by
  have := parseS_ok (Tx.rowsT s) [] (fun d hd => by cases hd)
  unfold Tx.parseT Tx.parseR at *
  generalize Tx.parseS (Tx.rowsT s) [] = z at this h ⊢
  cases z with
  | inl o => exact ⟨by simpa using this.2.1, this.2.2⟩
  | inr o => exact absurd h this
theorem rows_few (t : ByteArray) (ht : t.size ≤ 1000) : (Tx.rowsT t.data.toList).length ≤ 1001 := by
  have h1 := Tx.rowsF_len 1 (linesL t.data.toList)
  have h2 := Tx.lines_len t.data.toList
  have h3 : t.data.toList.length = t.size := by simp
  have h4 : (Tx.rowsT t.data.toList).length ≤ (linesL t.data.toList).length := h1
  omega
theorem getD_dir {l : List GDirective} {i : Nat} (h : i < l.length) : l.getD i (0, 0, 0, 0, 0, 0, 0, 0, 0, 0, 0, 0, 0) ∈ l := by rw [List.getD_eq_getElem?_getD, List.getElem?_eq_getElem h]; exact List.getElem_mem h
theorem Load_L0 {s : GState} (h : RightS s) (t : ByteArray) (ht : t.size ≤ 1000) (l : List GDirective) (hd : ∀ d ∈ l, rngD d) (hll : l.length = (Tx.rowsT t.data.toList).length) : ∀ (m i k : Nat) (x : GState), RightS x → s.2.2.1 ≤ x.2.2.1 → l.length - i = m → m + 30000 < k →
    (∃ f, state_Load_L0 k (t, s, zS, (0, 0), x, l, Int.ofNat l.length, (i : Int)) = some (.inr (s, f)) ∧ f.2 ≠ 0) ∨ ∃ q, state_Load_L0 k (t, s, zS, (0, 0), x, l, Int.ofNat l.length, (i : Int)) = some (.inl (zS, (0, 0), q)) ∧ RightS q ∧ s.2.2.1 ≤ q.2.2.1
  | 0, i, k + 1, x, hx, hc, hm, hk => by
    refine .inr ⟨x, ?_, hx, hc⟩
    simp only [state_Load_L0]
    rw [i_lt, dcF (by omega)]
    rfl
  | m + 1, i, k + 1, x, hx, hc, hm, hk => by
    have hf := rows_few t ht
    have hi : i < l.length := by omega
    obtain ⟨o, ho, hkp⟩ := Edit21_cases hx _ (hd _ (getD_dir hi)) k (by omega)
    simp only [state_Load_L0]
    rw [i_lt, dcT hi, dcT (Int.natCast_nonneg i), Int.toNat_natCast]
    simp only [cond_true, ho, Option.bind_some, h.copied k (by omega), Tx.text_Lines_sp k (s := t) (by omega) (by omega), i_lt, List.length_map, dcT (show i < (Tx.rowsT t.data.toList).length by omega)]
    rcases hkp with ⟨he, _⟩ | ⟨he, hq, hcl⟩
    · rw [dcF he]
      exact .inl ⟨_, rfl, he⟩
    · rw [dcT he, w64_succ (by omega)]
      exact Load_L0 h t ht l hd hll m (i + 1) k o.1 hq (by omega) (by omega) (by omega)
def KeepsF (s : GState) (o : GState × (Int × Int)) : Prop := (o.2.2 ≠ 0 ∧ o.1 = s) ∨ (o.2.2 = 0 ∧ RightS o.1 ∧ s.2.2.1 ≤ o.1.2.2.1)
theorem Load21_cases {s : GState} (h : RightS s) (t : ByteArray) (ht : t.size ≤ 1000) (k : Nat) (hk : 35000 < k) : ∃ o, state_Load k (s, t) = some o ∧ KeepsF s o := by
  unfold state_Load
  simp only [Tx.text_Parse_sp k (s := t) (by omega) (by omega), Option.bind_some, h.copied k (by omega)]
  by_cases he : (Tx.parseT t.data.toList).2.2 = 0
  · rw [dcT he]
    obtain ⟨g1, g2⟩ := parseT_good he
    have hf := rows_few t ht
    simp only [Bool.not_true, cond_false]
    rcases Load_L0 h t ht _ (fun d hd => right_rng (g2 d hd)) g1 _ 0 k s h (Int.le_refl _) rfl (by omega) with ⟨f, e, hf⟩ | ⟨q, e, hq, hc⟩
    · rw [Int.natCast_zero] at e
      exact ⟨(s, f), by rw [e]; rfl, .inl ⟨hf, rfl⟩⟩
    · rw [Int.natCast_zero] at e
      exact ⟨(q, 0, 0), by rw [e]; rfl, .inr ⟨rfl, hq, hc⟩⟩
  · rw [dcF he]
    exact ⟨_, rfl, .inl ⟨he, rfl⟩⟩
abbrev GAct := GFeluccalaw21Act
abbrev zA : GAct := (0, 0, 0, 0, 0, 0, 0, 0, 0, 0, 0, 0, 0, 0, (⟨#[]⟩ : ByteArray), 0, [], 0, 0)
def dA (x : GAct) : GDirective := (x.2.1, x.2.2.1, x.2.2.2.1, x.2.2.2.2.1, x.2.2.2.2.2.1, x.2.2.2.2.2.2.1, x.2.2.2.2.2.2.2.1, x.2.2.2.2.2.2.2.2.1, x.2.2.2.2.2.2.2.2.2.1, x.2.2.2.2.2.2.2.2.2.2.1, x.2.2.2.2.2.2.2.2.2.2.2.1, x.2.2.2.2.2.2.2.2.2.2.2.2.1, x.2.2.2.2.2.2.2.2.2.2.2.2.2.1)
def tA (x : GAct) : ByteArray := x.2.2.2.2.2.2.2.2.2.2.2.2.2.2.1
def iA (x : GAct) : List Int := x.2.2.2.2.2.2.2.2.2.2.2.2.2.2.2.2.1
theorem rngA {x : GAct} (h : okvT kGFeluccalaw21Act x) : rngD (dA x) := by
  simp only [okvT, SK.okv, Lit.wf, Bool.and_eq_true, decide_eq_true_eq] at h
  obtain ⟨_, _, _, _, _, _, h6, h7, _, _, _, h11, h12, _, _⟩ := h
  have e1 : IntKind.i64.min = -9223372036854775808 := by decide
  have e2 : IntKind.i64.max = 9223372036854775807 := by decide
  rw [e1, e2] at h6 h7 h11 h12
  exact ⟨⟨h6, h7⟩, ⟨h11, h12⟩⟩
theorem done_keeps {s : GState} (h : RightS s) {a : GAct} (ha : rngD (dA a)) (h1 : (tA a).size ≤ 1000) (h2 : (iA a).length ≤ 50) (k : Nat) (hk : 36000 < k) : ∃ o, feluccalaw21_done k (s, a) = some o ∧ KeepsF s o := by
  obtain ⟨o1, e1, k1⟩ := Edit21_cases h (dA a) ha k (by omega)
  obtain ⟨o2, e2, k2⟩ := Load21_cases h (tA a) h1 k (by omega)
  have e1' : state_Edit k (s, a.2.1, a.2.2.1, a.2.2.2.1, a.2.2.2.2.1, a.2.2.2.2.2.1, a.2.2.2.2.2.2.1, a.2.2.2.2.2.2.2.1, a.2.2.2.2.2.2.2.2.1, a.2.2.2.2.2.2.2.2.2.1, a.2.2.2.2.2.2.2.2.2.2.1, a.2.2.2.2.2.2.2.2.2.2.2.1, a.2.2.2.2.2.2.2.2.2.2.2.2.1, a.2.2.2.2.2.2.2.2.2.2.2.2.2.1) = some o1 := e1
  have e2' : state_Load k (s, a.2.2.2.2.2.2.2.2.2.2.2.2.2.2.1) = some o2 := e2
  have e3 : state_Advance k (s, a.2.2.2.2.2.2.2.2.2.2.2.2.2.2.2.1) = _ := Advance21_spec h _ k (by omega)
  have e4 : state_Book k (s, a.2.2.2.2.2.2.2.2.2.2.2.2.2.2.2.2) = _ := Book21_spec h (iA a) _ _ h2 k (by omega)
  have e5 : state_Release k (s, a.2.2.2.2.2.2.2.2.2.2.2.2.2.2.2.2) = _ := Release21_spec h (iA a) _ _ h2 k (by omega)
  have k3 := adv_keeps h a.2.2.2.2.2.2.2.2.2.2.2.2.2.2.2.1
  have k4 := book_keeps h (iA a) a.2.2.2.2.2.2.2.2.2.2.2.2.2.2.2.2.2.1 a.2.2.2.2.2.2.2.2.2.2.2.2.2.2.2.2.2.2
  have k5 := free_keeps h (iA a) a.2.2.2.2.2.2.2.2.2.2.2.2.2.2.2.2.2.1 a.2.2.2.2.2.2.2.2.2.2.2.2.2.2.2.2.2.2
  have up : ∀ {o : GState × Int}, Keeps s o → KeepsF s (o.1, 0, o.2) := fun hk => hk
  unfold feluccalaw21_done
  simp only [e1', e2', e3, e4, e5, Option.bind_some]
  by_cases c1 : a.1 = 1
  · rw [dcT c1]; exact ⟨_, rfl, up k1⟩
  rw [dcF c1]
  by_cases c2 : a.1 = 2
  · rw [dcT c2]; exact ⟨_, rfl, k2⟩
  rw [dcF c2]
  by_cases c3 : a.1 = 3
  · rw [dcT c3]; exact ⟨_, rfl, up k3⟩
  rw [dcF c3]
  by_cases c4 : a.1 = 4
  · rw [dcT c4]; exact ⟨_, rfl, up k4⟩
  rw [dcF c4]
  exact ⟨_, rfl, up k5⟩
theorem getD_act {l : List GAct} {i : Nat} (h : i < l.length) : l.getD i zA ∈ l := by rw [List.getD_eq_getElem?_getD, List.getElem?_eq_getElem h]; exact List.getElem_mem h
end Ex
namespace Ex
open Go
theorem rclass_spec (k : Nat) (c : Int) : rf09_class k c = some (clsB c) := by
  unfold rf09_class clsB
  by_cases h : 0 ≤ c <;> by_cases h2 : c < 3 <;> simp [h, h2]
theorem rUsed_L0 (l : List GBooked) (id : Int) (hs : l.length ≤ 1000000000) : ∀ (n i k : Nat), l.length - i = n → n < k → rf09_Used_L0 k (l, id, z3, (i : Int)) = some (match (l.drop i).find? (fun b => decide (b.1 = id)) with | some b => .inr b.2 | none => .inl z3)
  | 0, i, k + 1, hn, hk => by
    simp only [rf09_Used_L0]
    rw [i_lt, dcF (by omega), List.drop_eq_nil_of_le (by omega)]
    rfl
  | n + 1, i, k + 1, hn, hk => by
    have hi : i < l.length := by omega
    simp only [rf09_Used_L0]
    rw [i_lt, dcT hi, dcT (Int.natCast_nonneg i), Int.toNat_natCast, getD_drop (d := zB) hi, List.find?_cons]
    simp only [cond_true, w64_succ (by omega : i < 4611686018427387904), rUsed_L0 l id hs n (i + 1) k (by omega) (by omega)]
    by_cases h : (l.getD i zB).1 = id
    · rw [dcT h]; rfl
    · rw [dcF h]; rfl
theorem rUsed_spec (l : List GBooked) (id : Int) (k : Nat) (hs : l.length ≤ 1000000000) (hk : l.length < k) : rf09_Used k (l, id) = some (usedL l id) := by
  have := rUsed_L0 l id hs l.length 0 k (by omega) hk
  rw [Int.natCast_zero, List.drop_zero] at this
  have this' : rf09_Used_L0 k (l, id, (0, 0, 0), 0) = _ := this
  unfold rf09_Used usedL
  simp only [this', Option.bind_some]
  cases l.find? (fun b => decide (b.1 = id)) <;> rfl
theorem rVolume_spec (k : Nat) (c : GContact) : rf03_Volume k c = some (volC c) := by
  have hv := vol_62 c
  unfold rf03_Volume
  simp only [ref03_Contact_spec, Option.bind_some]
  unfold volC In62 at *
  cases hc : conB c with
  | false => rfl
  | true =>
    rw [hc] at hv
    simp only [if_true, cond_true] at hv ⊢
    have h1 : w64 (c.2.2.2.2.1 - c.2.2.2.1) = c.2.2.2.2.1 - c.2.2.2.1 := by
      unfold conB spanB at hc
      simp only [Bool.and_eq_true, decide_eq_true_eq] at hc
      rw [w64_id (by omega) (by omega)]
    rw [h1, Int.mul_comm, w64_id (by omega) (by omega)]
theorem rBack_L0 {u : T48} (hu : okU u) (k : Nat) (hk : 4 ≤ k) (c : Int) (hc : clsB c = true) : rf09_Backlog_L0 k (u, 0, c) = some (.inl (backL u c)) := by
  obtain ⟨k, rfl⟩ : ∃ m, k = m + 4 := ⟨k - 4, by omega⟩
  obtain ⟨u1, u2, u3⟩ := hu
  have s3 : ∀ (q : Nat) (n : Int), rf09_Backlog_L0 (q + 1) (u, n, 3) = some (.inl n) := fun q n => rfl
  have s2 : ∀ (q : Nat) (n : Int), In62 n → rf09_Backlog_L0 (q + 2) (u, n, 2) = some (.inl (satB n u.2.2)) := fun q n hn => by rw [← (sat_step hn u3).1, ← s3 q]; rfl
  have s1 : ∀ (q : Nat) (n : Int), In62 n → rf09_Backlog_L0 (q + 3) (u, n, 1) = some (.inl (satB (satB n u.2.1) u.2.2)) := fun q n hn => by rw [← s2 q _ (sat_step hn u2).2, ← (sat_step hn u2).1]; rfl
  have s0 : ∀ (q : Nat) (n : Int), In62 n → rf09_Backlog_L0 (q + 4) (u, n, 0) = some (.inl (satB (satB (satB n u.1) u.2.1) u.2.2)) := fun q n hn => by rw [← s1 q _ (sat_step hn u1).2, ← (sat_step hn u1).1]; rfl
  unfold backL
  rcases cls_cases hc with rfl | rfl | rfl
  · rw [if_pos rfl]; exact s0 k 0 In62.zero
  · rw [if_neg (by omega), if_pos rfl]; exact s1 (k + 1) 0 In62.zero
  · rw [if_neg (by omega), if_neg (by omega)]; exact s2 (k + 2) 0 In62.zero
theorem rBacklog_spec (l : List GBooked) (id c : Int) (k : Nat) (hs : l.length ≤ 1000000000) (h : RightL l) (hk : l.length + 4 < k) : rf09_Backlog k (l, id, c) = some (bif clsB c then backL (usedL l id) c else 0) := by
  unfold rf09_Backlog
  simp only [rclass_spec, Option.bind_some, rUsed_spec l id k hs (by omega)]
  cases hc : clsB c with
  | false => rfl
  | true => simp only [cond_true, rBack_L0 (usedL_ok h id) k (by omega) c hc, Option.bind_some]
theorem rRoom_spec (l : List GBooked) (c : GContact) (n : Int) (k : Nat) (hs : l.length ≤ 1000000000) (h : RightL l) (hk : l.length + 4 < k) : rf09_Room k (l, c, n) = some (roomL (usedL l c.1) c n) := by
  have hv := vol_62 c
  have hb := back_62 (usedL_ok h c.1) n
  unfold rf09_Room roomL
  simp only [rclass_spec, Option.bind_some, rVolume_spec, rBacklog_spec l c.1 n k hs h hk]
  cases hc : clsB n with
  | false => rfl
  | true =>
    unfold In62 at hv hb
    simp only [cond_true, if_true]
    rw [w64_id (by omega) (by omega)]
    unfold mx
    congr 1
    omega
theorem rCopy_spec (l : List GBooked) (k : Nat) (h : l.length ≤ 1000000000) : rf09_Copy k l = some l := by
  unfold rf09_Copy
  rw [dcT (by omega)]
  rfl
def wL (id : Int) (u : T48) : Bool → List GBooked → List GBooked × Bool
  | laid, [] => ([], laid)
  | laid, b :: r => ((bif !laid && decide (id ≤ b.1) then [(id, u)] else []) ++ ((bif !decide (b.1 = id) then [b] else []) ++ (wL id u (laid || decide (id ≤ b.1)) r).1), (wL id u (laid || decide (id ≤ b.1)) r).2)
theorem rwith_L0 (l : List GBooked) (id : Int) (u : T48) (hs : l.length ≤ 100000000) : ∀ (n i k : Nat) (o : List GBooked) (laid : Bool), l.length - i = n → n < k → o.length ≤ 2 * i → rf09_with_L0 k (l, id, u, o, laid, (i : Int)) = some (.inl (id, u, o ++ (wL id u laid (l.drop i)).1, (wL id u laid (l.drop i)).2))
  | 0, i, k + 1, o, laid, hn, hk, ho => by
    simp only [rf09_with_L0]
    rw [i_lt, dcF (by omega), List.drop_eq_nil_of_le (by omega)]
    simp [wL]
  | n + 1, i, k + 1, o, laid, hn, hk, ho => by
    have hi : i < l.length := by omega
    have ih := fun o laid ho => rwith_L0 l id u hs n (i + 1) k o laid (by omega) (by omega) ho
    have c1 : ∀ x : GBooked, decide ((o.length + [x].length) * 32 ≤ 140737488355328) = true := fun x => dcT (by simp only [List.length_cons, List.length_nil]; omega)
    have c2 : ∀ x y : GBooked, decide (((o ++ [x]).length + [y].length) * 32 ≤ 140737488355328) = true := fun x y => dcT (by simp only [List.length_append, List.length_cons, List.length_nil]; omega)
    simp only [rf09_with_L0]
    rw [i_lt, dcT hi, dcT (Int.natCast_nonneg i), Int.toNat_natCast, getD_drop (d := zB) hi]
    simp only [cond_true, c1, c2, w64_succ (by omega : i < 4611686018427387904)]
    generalize l.getD i zB = b
    cases laid with
    | true =>
      simp only [cond_true, wL, Bool.not_true, Bool.false_and, cond_false, Bool.true_or, List.nil_append]
      cases decide (b.1 = id) with
      | true => simp only [Bool.not_true, cond_false, ih o true (by omega), List.nil_append]
      | false => simp only [Bool.not_false, cond_true, ih (o ++ [b]) true (by simp; omega), List.append_assoc]
    | false =>
      simp only [cond_false, wL, Bool.not_false, Bool.true_and, Bool.false_or]
      cases decide (id ≤ b.1) with
      | true =>
        simp only [cond_true]
        cases decide (b.1 = id) with
        | true => simp only [Bool.not_true, cond_false, ih (o ++ [(id, u)]) true (by simp; omega), List.nil_append, List.append_assoc]
        | false =>
          simp only [Bool.not_false, cond_true]
          rw [ih (o ++ [(id, u)] ++ [b]) true (by simp; omega)]
          simp only [List.append_assoc]
      | false =>
        simp only [cond_false, List.nil_append]
        cases decide (b.1 = id) with
        | true => simp only [Bool.not_true, cond_false, ih o false (by omega), List.nil_append]
        | false => simp only [Bool.not_false, cond_true, ih (o ++ [b]) false (by simp; omega), List.append_assoc]
theorem wL_len (id : Int) (u : T48) : ∀ (l : List GBooked) (laid : Bool), (wL id u laid l).1.length ≤ 2 * l.length
  | [], _ => Nat.zero_le _
  | b :: r, laid => by
    have ih := wL_len id u r (laid || decide (id ≤ b.1))
    rw [wL]
    simp only [List.length_append, List.length_cons]
    have h1 : (bif !laid && decide (id ≤ b.1) then [(id, u)] else []).length ≤ 1 := by cases (!laid && decide (id ≤ b.1)) <;> simp
    have h2 : (bif !decide (b.1 = id) then [b] else []).length ≤ 1 := by cases (!decide (b.1 = id)) <;> simp
    omega
theorem wL_true (id : Int) (u : T48) : ∀ l : List GBooked, wL id u true l = (l.filter (fun b => !decide (b.1 = id)), true)
  | [] => rfl
  | b :: r => by
    rw [wL]
    simp only [Bool.true_or, wL_true id u r, Bool.not_true, Bool.false_and, cond_false, List.nil_append, List.filter_cons]
    cases decide (b.1 = id) <;> simp
theorem filter_up {id : Int} {b : GBooked} {r : List GBooked} (h : ∀ x ∈ r, b.1 < x.1) (hb : id ≤ b.1) : r.filter (fun b => !decide (b.1 = id)) = r ∧ r.filter (fun b => decide (id < b.1)) = r ∧ r.filter (fun b => decide (b.1 < id)) = [] := by
  refine ⟨List.filter_eq_self.2 fun x hx => ?_, List.filter_eq_self.2 fun x hx => ?_, List.filter_eq_nil_iff.2 fun x hx => ?_⟩
  · have := h x hx; simp; omega
  · have := h x hx; simp; omega
  · have := h x hx; simp; omega
theorem wL_false (id : Int) (u : T48) : ∀ {l : List GBooked}, SortL l → (wL id u false l).1 ++ (bif (wL id u false l).2 then [] else [(id, u)]) = l.filter (fun b => decide (b.1 < id)) ++ (id, u) :: l.filter (fun b => decide (id < b.1))
  | [], _ => rfl
  | b :: r, h => by
    have h' := List.pairwise_cons.1 h
    rw [wL]
    by_cases hb : id ≤ b.1
    · obtain ⟨f1, f2, f3⟩ := filter_up h'.1 hb
      simp only [dcT hb, Bool.not_false, Bool.and_self, cond_true, Bool.or_true, wL_true, f1, List.append_nil, List.filter_cons, f2, f3]
      rw [if_neg (by simp; omega)]
      by_cases he : b.1 = id
      · rw [dcT he, if_neg (by simp; omega)]; rfl
      · rw [dcF he, if_pos (by simp; omega)]; rfl
    · have ih := wL_false id u h'.2
      simp only [dcF hb, Bool.not_false, Bool.and_false, cond_false, Bool.or_false, List.nil_append, List.append_assoc, ih, List.filter_cons, dcF (show ¬ b.1 = id by omega), cond_true]
      rw [if_pos (by simp; omega), if_neg (by simp; omega)]
      rfl
theorem filter_ne (id : Int) : ∀ {l : List GBooked}, SortL l → l.filter (fun b => !decide (b.1 = id)) = l.filter (fun b => decide (b.1 < id)) ++ l.filter (fun b => decide (id < b.1))
  | [], _ => rfl
  | b :: r, h => by
    have h' := List.pairwise_cons.1 h
    rw [List.filter_cons, List.filter_cons, List.filter_cons]
    by_cases hb : id ≤ b.1
    · obtain ⟨f1, f2, f3⟩ := filter_up h'.1 hb
      rw [f1, f2, f3]
      by_cases he : b.1 = id
      · rw [if_neg (by simp [he]), if_neg (by simp; omega), if_neg (by simp; omega)]; rfl
      · rw [if_pos (by simp [he]), if_neg (by simp; omega), if_pos (by simp; omega)]; rfl
    · have ih := filter_ne id h'.2
      rw [if_pos (by simp; omega), if_pos (by simp; omega), if_neg (by simp; omega), ih]; rfl
theorem rwith_spec (l : List GBooked) (id : Int) (u : T48) (k : Nat) (hs : l.length ≤ 100000000) (hl : SortL l) (hk : l.length < k) : rf09_with k (l, id, u) = some (withL l id u) := by
  have h0 := fun laid => rwith_L0 l id u hs l.length 0 k [] laid (by omega) hk (by simp)
  simp only [Int.natCast_zero, List.drop_zero, List.nil_append] at h0
  unfold rf09_with
  simp only [nz_spec, h0, Option.bind_some]
  unfold withL oneL
  cases hu : decide (u = z3) with
  | true =>
    simp only [cond_true, wL_true, List.nil_append, filter_ne id hl]
  | false =>
    simp only [cond_false]
    have hw := wL_false id u hl
    have hlen := wL_len id u l false
    rw [show [(id, u)] ++ l.filter (fun b => decide (id < b.1)) = (id, u) :: l.filter (fun b => decide (id < b.1)) from rfl, ← hw]
    cases (wL id u false l).2 with
    | true => simp only [cond_true, List.append_nil]
    | false =>
      rw [cond_false, dcT (by simp only [List.length_cons, List.length_nil]; omega)]
      rfl
theorem rBook_spec (l : List GBooked) (c : GContact) (n size : Int) (k : Nat) (hs : l.length ≤ 100000000) (h : RightL l) (hk : l.length + 4 < k) : rf09_Book k (l, c, n, size) = some (bif bookB (usedL l c.1) c n size then (withL l c.1 (addU (usedL l c.1) n size), true) else (l, false)) := by
  have h62 := @add_62 _ (usedL_ok h c.1) c n size
  unfold rf09_Book
  simp only [rclass_spec, Option.bind_some, ref03_Contact_spec, rCopy_spec l k (by omega), rRoom_spec l c n k (by omega) h hk, rUsed_spec l c.1 k (by omega) (by omega), rwith_spec l _ _ k hs h.2 (by omega)]
  unfold bookB at *
  cases hc : conB c with
  | false => rfl
  | true =>
    cases hn : clsB n with
    | false => rfl
    | true =>
      rw [hc, hn] at h62
      simp only [cond_true, Bool.true_and] at h62 ⊢
      by_cases h0 : size < 0
      · rw [dcT h0, dcF (by omega : ¬ 0 ≤ size)]; rfl
      · rw [dcF h0, dcT (by omega : 0 ≤ size)] at *
        by_cases h1 : roomL (usedL l c.1) c n < size
        · rw [dcT h1, dcF (by omega : ¬ size ≤ roomL (usedL l c.1) c n)]; rfl
        · rw [dcF h1, dcT (by omega : size ≤ roomL (usedL l c.1) c n)] at *
          have h62 := h62 rfl
          unfold In62 getU at h62
          unfold addU
          rcases cls_cases hn with rfl | rfl | rfl
          · simp only [if_true] at h62 ⊢
            rw [w64_id (by omega) (by omega)]; rfl
          · simp only [show ¬ (1 : Int) = 0 by omega, if_false, if_true] at h62 ⊢
            rw [show w64 ((usedL l c.1).2.1 + size) = (usedL l c.1).2.1 + size from w64_id (by omega) (by omega)]; rfl
          · simp only [show ¬ (2 : Int) = 0 by omega, show ¬ (2 : Int) = 1 by omega, if_false] at h62 ⊢
            rw [show w64 ((usedL l c.1).2.2 + size) = (usedL l c.1).2.2 + size from w64_id (by omega) (by omega)]; rfl
theorem rRelease_spec (l : List GBooked) (id n size : Int) (k : Nat) (hs : l.length ≤ 100000000) (h : RightL l) (hk : l.length + 4 < k) : rf09_Release k (l, id, n, size) = some (bif freeB (usedL l id) n size then (withL l id (addU (usedL l id) n (-size)), true) else (l, false)) := by
  obtain ⟨u1, u2, u3⟩ := usedL_ok h id
  unfold In62 at u1 u2 u3
  unfold rf09_Release
  simp only [rclass_spec, Option.bind_some, rCopy_spec l k (by omega), rUsed_spec l id k (by omega) (by omega), rwith_spec l _ _ k hs h.2 (by omega)]
  unfold freeB getU addU
  cases hn : clsB n with
  | false => rfl
  | true =>
    simp only [cond_true, Bool.true_and]
    by_cases h0 : size < 0
    · rw [dcT h0, dcF (by omega : ¬ 0 ≤ size)]; rfl
    · rw [dcF h0, dcT (by omega : 0 ≤ size)]
      rcases cls_cases hn with rfl | rfl | rfl
      · simp only [if_true]
        by_cases h1 : (usedL l id).1 < size
        · rw [dcT h1, dcF (by omega : ¬ size ≤ (usedL l id).1)]; rfl
        · rw [dcF h1, dcT (by omega : size ≤ (usedL l id).1)]
          rw [show w64 ((usedL l id).1 - size) = (usedL l id).1 + -size from by rw [w64_id (by omega) (by omega)]; omega]; rfl
      · simp only [show ¬ (1 : Int) = 0 by omega, if_false, if_true]
        by_cases h1 : (usedL l id).2.1 < size
        · rw [dcT h1, dcF (by omega : ¬ size ≤ (usedL l id).2.1)]; rfl
        · rw [dcF h1, dcT (by omega : size ≤ (usedL l id).2.1)]
          rw [show w64 ((usedL l id).2.1 - size) = (usedL l id).2.1 + -size from by rw [w64_id (by omega) (by omega)]; omega]; rfl
      · simp only [show ¬ (2 : Int) = 0 by omega, show ¬ (2 : Int) = 1 by omega, if_false]
        by_cases h1 : (usedL l id).2.2 < size
        · rw [dcT h1, dcF (by omega : ¬ size ≤ (usedL l id).2.2)]; rfl
        · rw [dcF h1, dcT (by omega : size ≤ (usedL l id).2.2)]
          rw [show w64 ((usedL l id).2.2 - size) = (usedL l id).2.2 + -size from by rw [w64_id (by omega) (by omega)]; omega]; rfl
theorem rDrop_L1 (l o : List GBooked) (ids : List Int) (hs : ids.length ≤ 1000000000) (i : Nat) (hi : i < l.length) : ∀ (n j k : Nat) (g : Bool), ids.length - j = n → n < k → rf09_Drop_L1 k (l, ids, o, (i : Int), g, (j : Int)) = some (.inl (l, ids, o, (i : Int), g || (ids.drop j).any fun x => decide (x = (l.getD i zB).1)))
  | 0, j, k + 1, g, hn, hk => by
    simp only [rf09_Drop_L1]
    rw [i_lt, dcF (by omega), List.drop_eq_nil_of_le (by omega)]
    simp
  | n + 1, j, k + 1, g, hn, hk => by
    have hj : j < ids.length := by omega
    have ih := fun g => rDrop_L1 l o ids hs i hi n (j + 1) k g (by omega) (by omega)
    simp only [rf09_Drop_L1]
    rw [i_lt, dcT hj, dcT (Int.natCast_nonneg j), Int.toNat_natCast, i_lt, dcT hi, dcT (Int.natCast_nonneg i), Int.toNat_natCast, getD_drop (d := 0) hj, List.any_cons]
    simp only [cond_true, w64_succ (by omega : j < 4611686018427387904), ih]
    cases g with
    | true => simp
    | false => cases decide (ids.getD j 0 = (l.getD i zB).1) <;> simp
theorem rDrop_L0 (l : List GBooked) (ids : List Int) (hs : l.length ≤ 100000000) (hd : ids.length ≤ 100000000) : ∀ (n i k : Nat) (o : List GBooked), l.length - i = n → n + ids.length < k → o.length ≤ i → rf09_Drop_L0 k (l, ids, o, (i : Int)) = some (.inl (o ++ dropL (l.drop i) ids))
  | 0, i, k + 1, o, hn, hk, ho => by
    simp only [rf09_Drop_L0]
    rw [i_lt, dcF (by omega), List.drop_eq_nil_of_le (by omega)]
    simp [dropL]
  | n + 1, i, k + 1, o, hn, hk, ho => by
    have hi : i < l.length := by omega
    have hL := rDrop_L1 l o ids (by omega) i hi ids.length 0 k false (by omega) (by omega)
    rw [Int.natCast_zero, List.drop_zero, Bool.false_or] at hL
    have ih := fun o ho => rDrop_L0 l ids hs hd n (i + 1) k o (by omega) (by omega) ho
    simp only [rf09_Drop_L0]
    rw [i_lt, dcT hi]
    simp only [cond_true, hL, Option.bind_some, i_lt, dcT hi, dcT (Int.natCast_nonneg i), Int.toNat_natCast, w64_succ (by omega : i < 4611686018427387904)]
    rw [getD_drop (d := zB) hi]
    have e : (ids.any fun x => decide (x = (l.getD i zB).1)) = decide ((l.getD i zB).1 ∈ ids) := by
      rw [Bool.eq_iff_iff, List.any_eq_true]; simp
    rw [e]
    unfold dropL at *
    rw [List.filter_cons]
    cases decide ((l.getD i zB).1 ∈ ids) with
    | true => simp only [cond_true, Bool.not_true]; rw [ih o (by omega)]; rfl
    | false =>
      simp only [cond_false, Bool.not_false, if_true]
      rw [dcT (by simp only [List.length_cons, List.length_nil]; omega), cond_true, ih _ (by simp; omega)]
      simp
theorem rDrop_spec (l : List GBooked) (ids : List Int) (k : Nat) (hs : l.length ≤ 100000000) (hd : ids.length ≤ 100000000) (hk : l.length + ids.length < k) : rf09_Drop k (l, ids) = some (dropL l ids) := by
  have := rDrop_L0 l ids hs hd l.length 0 k [] (by omega) hk (by simp)
  rw [Int.natCast_zero, List.drop_zero, List.nil_append] at this
  unfold rf09_Drop
  simp only [this, Option.bind_some]
theorem rSame_L0 (a b : List GBooked) (hs : a.length ≤ 1000000000) (hl : a.length = b.length) : ∀ (n i k : Nat), a.length - i = n → n < k → rf09_Same_L0 k (a, b, (i : Int)) = some (sameI a b i)
  | 0, i, k + 1, hn, hk => by
    rw [sameI_end (by omega) hl]
    simp only [rf09_Same_L0]
    rw [i_lt, dcF (by omega)]
    rfl
  | n + 1, i, k + 1, hn, hk => by
    have hi : i < a.length := by omega
    rw [sameI_step zB hi hl]
    simp only [rf09_Same_L0]
    rw [i_lt, dcT hi, i_lt, dcT (by omega : i < b.length), dcT (Int.natCast_nonneg i)]
    simp only [cond_true, Int.toNat_natCast, eq4, w64_succ (by omega : i < 4611686018427387904), rSame_L0 a b hs hl n (i + 1) k (by omega) (by omega)]
    by_cases h : a.getD i zB = b.getD i zB
    · rw [dcT h, if_pos h]; rfl
    · rw [dcF h, if_neg h]; rfl
theorem rSame_spec (a b : List GBooked) (k : Nat) (hs : a.length ≤ 1000000000) (hk : a.length < k) : rf09_Same k (a, b) = some (decide (a = b)) := by
  unfold rf09_Same
  by_cases hl : a.length = b.length
  · have e : decide (Int.ofNat a.length = Int.ofNat b.length) = true := dcT (by rw [hl])
    have := rSame_L0 a b hs hl a.length 0 k (by omega) hk
    rw [Int.natCast_zero] at this
    simp only [e, Bool.not_true, cond_false, this, Option.bind_some]
    unfold sameI
    rw [List.drop_zero, List.drop_zero]
    by_cases h : a = b
    · rw [if_pos h, dcT h]
    · rw [if_neg h, dcF h]
  · have e : decide (Int.ofNat a.length = Int.ofNat b.length) = false := dcF (fun h => hl (Int.ofNat.inj h))
    rw [dcF (fun h => hl (by rw [h]) : ¬ a = b)]
    simp only [e]
    rfl
theorem rR_L1 (l : List GBooked) (i : Int) (b : GBooked) (k : Nat) (hk : 4 ≤ k) : rf09_Right_L1 k (l, i, b, false, 0) = some (bif u62 b.2 then .inl (l, i, !decide (b.2 = z3)) else .inr false) := by
  obtain ⟨k, rfl⟩ : ∃ m, k = m + 4 := ⟨k - 4, by omega⟩
  have col : ∀ {α : Type} (sm d : Bool) (X : Bool → α), (bif sm then X true else bif d then X true else X false) = X (sm || d) := fun sm d X => by cases sm <;> cases d <;> rfl
  have s3 : ∀ sm, rf09_Right_L1 (k + 1) (l, i, b, sm, 3) = some (.inl (l, i, sm)) := fun sm => rfl
  have s2 : ∀ sm, rf09_Right_L1 (k + 2) (l, i, b, sm, 2) = bif decide (In62 b.2.2.2) then some (.inl (l, i, sm || decide (0 < b.2.2.2))) else some (.inr false) := fun sm => by
    rw [← in62_bif, ← s3, ← col sm _ fun x => rf09_Right_L1 (k + 1) (l, i, b, x, 3)]; rfl
  have s1 : ∀ sm, rf09_Right_L1 (k + 3) (l, i, b, sm, 1) = bif decide (In62 b.2.2.1) then rf09_Right_L1 (k + 2) (l, i, b, sm || decide (0 < b.2.2.1), 2) else some (.inr false) := fun sm => by
    rw [← in62_bif, ← col sm _ fun x => rf09_Right_L1 (k + 2) (l, i, b, x, 2)]; rfl
  have s0 : ∀ sm, rf09_Right_L1 (k + 4) (l, i, b, sm, 0) = bif decide (In62 b.2.1) then rf09_Right_L1 (k + 3) (l, i, b, sm || decide (0 < b.2.1), 1) else some (.inr false) := fun sm => by
    rw [← in62_bif, ← col sm _ fun x => rf09_Right_L1 (k + 3) (l, i, b, x, 1)]; rfl
  rw [s0]
  simp only [s1, s2]
  have hz : In62 b.2.1 → In62 b.2.2.1 → In62 b.2.2.2 → (false || decide (0 < b.2.1) || decide (0 < b.2.2.1) || decide (0 < b.2.2.2)) = !decide (b.2 = z3) := fun h1 h2 h3 => by
    unfold In62 at h1 h2 h3
    obtain ⟨id, u1, u2, u3⟩ := b
    rw [Bool.eq_iff_iff]
    simp [z3]
    simp only at h1 h2 h3
    omega
  unfold u62
  by_cases h1 : In62 b.2.1
  · by_cases h2 : In62 b.2.2.1
    · by_cases h3 : In62 b.2.2.2
      · rw [hz h1 h2 h3, dcT h1, dcT h2, dcT h3]; rfl
      · rw [dcT h1, dcT h2, dcF h3]; rfl
    · rw [dcT h1, dcF h2]; rfl
  · rw [dcF h1]; rfl
theorem rR_L0 (l : List GBooked) (hs : l.length ≤ 1000000000) : ∀ (n i k : Nat), l.length - i = n → n + 5 < k → i ≤ l.length → rf09_Right_L0 k (l, (i : Int)) = some (bif chkG (okBb l) n i then .inl () else .inr false)
  | 0, i, k + 1, hn, hk, hi => by
    simp only [rf09_Right_L0]
    rw [i_lt, dcF (by omega)]
    rfl
  | n + 1, i, k + 1, hn, hk, _ => by
    have hi : i < l.length := by omega
    have ih := rR_L0 l hs n (i + 1) k (by omega) (by omega) (by omega)
    simp only [rf09_Right_L0]
    rw [i_lt, dcT hi, dcT (Int.natCast_nonneg i), Int.toNat_natCast]
    simp only [cond_true, chkG, okBb, rR_L1 l _ _ k (by omega), Option.bind_some]
    generalize hb : l.getD i zB = b
    by_cases g1 : b.1 < 1
    · rw [dcT g1, dcF (by omega : ¬ (1 ≤ b.1 ∧ b.1 ≤ 1048576))]; rfl
    rw [dcF g1]
    by_cases g2 : 1048576 < b.1
    · rw [dcT g2, dcF (by omega : ¬ (1 ≤ b.1 ∧ b.1 ≤ 1048576))]; rfl
    rw [dcF g2, dcT (by omega : (1 ≤ b.1 ∧ b.1 ≤ 1048576))]
    have fin : (match (bif u62 b.2 then (.inl (l, (i : Int), !decide (b.2 = z3)) : ((List GBooked) × Int × Bool) ⊕ Bool) else .inr false) with | .inl o => (bif o.2.2 then rf09_Right_L0 k (o.1, w64 (o.2.1 + 1)) else some (Sum.inr false)) | .inr o => some (Sum.inr o)) = some (bif (!decide (b.2 = z3) && u62 b.2) && chkG (okBb l) n (i + 1) then .inl () else .inr false) := by
      cases u62 b.2 with
      | false => cases decide (b.2 = z3) <;> rfl
      | true =>
        cases decide (b.2 = z3) with
        | true => rfl
        | false =>
          simp only [cond_true, Bool.not_false, w64_succ (by omega : i < 4611686018427387904), ih]
          rfl
    by_cases h0 : 0 < i
    · have e0 : w64 ((i : Int) - 1) = ((i - 1 : Nat) : Int) := by rw [w64_id (by omega) (by omega)]; omega
      rw [dcT (by omega : (0 : Int) < (i : Int)), dcT h0, e0]
      rw [i_lt, dcT (by omega : i - 1 < l.length), dcT (Int.natCast_nonneg (i - 1)), Int.toNat_natCast]
      simp only [cond_true, cond_false, Bool.true_and]
      by_cases h1 : b.1 ≤ (l.getD (i - 1) zB).1
      · rw [dcT h1, dcF (by omega : ¬ (l.getD (i - 1) zB).1 < b.1)]; rfl
      · rw [dcF h1, dcT (by omega : (l.getD (i - 1) zB).1 < b.1)]
        exact fin
    · rw [dcF (by omega : ¬ (0 : Int) < (i : Int)), dcF h0]
      exact fin
theorem rRight_spec (l : List GBooked) (k : Nat) (hs : l.length ≤ 1000000000) (hk : l.length + 5 < k) : rf09_Right k l = some (rightLB l) := by
  have := rR_L0 l hs l.length 0 k (by omega) hk (by omega)
  rw [Int.natCast_zero] at this
  unfold rf09_Right rightLB
  simp only [this, Option.bind_some]
  cases chkG (okBb l) l.length 0 <;> rfl
end Ex
namespace Ex
open Go
theorem drop_any' {α : Type} {p : α → Bool} {s : List α} {i : Nat} (d : α) (h : i < s.length) : (s.drop i).any p = (p (s.getD i d) || (s.drop (i + 1)).any p) := by
  rw [getD_drop (d := d) h, List.any_cons]
theorem ref03_Range_spec (k : Nat) (r : GRange) : rf03_Range k r = some (ranB r) := by
  unfold rf03_Range ranB
  simp only [ref03_pair_spec, Option.bind_some]
  cases wayB r.1 r.2.1 <;> cases spanB r.2.2.1 r.2.2.2.1 <;> by_cases h1 : 0 ≤ r.2.2.2.2 <;> by_cases h2 : r.2.2.2.2 ≤ 2147483647 <;> simp [h1, h2]
def lessR (a b : GRange) : Bool := if a.1 ≠ b.1 then decide (a.1 < b.1) else if a.2.1 ≠ b.2.1 then decide (a.2.1 < b.2.1) else decide (a.2.2.1 < b.2.2.1)
theorem lessR_spec (k : Nat) (a b : GRange) : rf07_less k (a, b) = some (lessR a b) := by
  unfold rf07_less lessR
  by_cases h1 : a.1 = b.1 <;> by_cases h2 : a.2.1 = b.2.1 <;> by_cases h4 : a.1 < b.1 <;> by_cases h5 : a.2.1 < b.2.1 <;> by_cases h6 : a.2.2.1 < b.2.2.1 <;> simp [h1, h2, h4, h5, h6]
theorem lessR_cmp (a b : GRange) : lessR a b = decide (cmpR a b < 0) := by
  rw [Bool.eq_iff_iff, decide_eq_true_eq, cmpR_lt]
  unfold lessR
  by_cases h1 : a.1 = b.1
  · rw [if_neg (by simpa using h1)]
    by_cases h2 : a.2.1 = b.2.1
    · rw [if_neg (by simpa using h2), decide_eq_true_eq]; omega
    · rw [if_pos h2, decide_eq_true_eq]; omega
  · rw [if_pos h1, decide_eq_true_eq]; omega
def ovE (a b : GRange) : Bool := decide (a.1 = b.1) && (decide (a.2.1 = b.2.1) && (decide (a.2.2.1 < b.2.2.2.1) && decide (b.2.2.1 < a.2.2.2.1)))
theorem ovE_spec (k : Nat) (a b : GRange) : rf07_overlap k (a, b) = some (ovE a b) := by
  unfold rf07_overlap ovE
  by_cases h1 : a.1 = b.1 <;> by_cases h2 : a.2.1 = b.2.1 <;> by_cases h3 : a.2.2.1 < b.2.2.2.1 <;> by_cases h4 : b.2.2.1 < a.2.2.2.1 <;> simp [h1, h2, h3, h4]
theorem ovE_iff {a b : GRange} : ovE a b = true ↔ ovD a b := by
  unfold ovE ovD
  simp only [Bool.and_eq_true, decide_eq_true_eq]
theorem ov_same {a b : GRange} (ha : ranB a = true) (hb : ranB b = true) : ovQ a b = ovE a b := by
  rw [Bool.eq_iff_iff, ovQ_iff ha hb, ovE_iff]
theorem ref07_Copy_spec (l : List GRange) (k : Nat) (h : l.length ≤ 1000000000) : rf07_Copy k l = some l := by
  unfold rf07_Copy
  rw [dcT (by omega)]
  rfl
def pairE (l : List GRange) (i : Nat) : Nat → Nat → Bool
  | 0, _ => true
  | n + 1, j => !ovE (l.getD j z56) (l.getD i z56) && pairE l i n (j + 1)
theorem RightE_L1_spec (l : List GRange) (hs : l.length ≤ 1000000000) (i : Nat) (hi : i < l.length) : ∀ (n j k : Nat), i - j = n → n < k → rf07_Right_L1 k (l, (i : Int), (j : Int)) = some (bif pairE l i n j then .inl (l, (i : Int)) else .inr false)
  | 0, j, k + 1, hn, hk => by
    simp only [rf07_Right_L1]
    rw [dcF (by omega)]
    rfl
  | n + 1, j, k + 1, hn, hk => by
    have ih := RightE_L1_spec l hs i hi n (j + 1) k (by omega) (by omega)
    simp only [rf07_Right_L1, pairE]
    rw [dcT (by omega : (j : Int) < (i : Int)), dcT (Int.natCast_nonneg j), i_lt, dcT (by omega : j < l.length), dcT (Int.natCast_nonneg i), i_lt, dcT hi, Int.toNat_natCast, Int.toNat_natCast]
    simp only [cond_true, ovE_spec, Option.bind_some, w64_succ (by omega : j < 4611686018427387904), ih]
    cases ovE (l.getD j z56) (l.getD i z56) <;> simp
def okE (l : List GRange) (i : Nat) : Bool := ranB (l.getD i z56) && ((bif decide (0 < i) then lessR (l.getD (i - 1) z56) (l.getD i z56) else true) && pairE l i i 0)
def chkD (l : List GRange) : Nat → Nat → Bool
  | 0, _ => true
  | n + 1, i => okE l i && chkD l n (i + 1)
theorem RightE_L0_spec (l : List GRange) (hs : l.length ≤ 1000000000) : ∀ (n i k : Nat), l.length - i = n → n + l.length < k → i ≤ l.length → rf07_Right_L0 k (l, (i : Int)) = some (bif chkD l n i then .inl l else .inr false)
  | 0, i, k + 1, hn, hk, hi => by
    simp only [rf07_Right_L0]
    rw [i_lt, dcF (by omega)]
    rfl
  | n + 1, i, k + 1, hn, hk, _ => by
    have hi : i < l.length := by omega
    have ih := RightE_L0_spec l hs n (i + 1) k (by omega) (by omega) (by omega)
    have h1 := RightE_L1_spec l hs i hi i 0 k (by omega) (by omega)
    rw [Int.natCast_zero] at h1
    simp only [rf07_Right_L0, chkD, okE]
    rw [i_lt, dcT hi, dcT (Int.natCast_nonneg i), Int.toNat_natCast]
    simp only [cond_true, ref03_Range_spec, Option.bind_some, lessR_spec, h1]
    cases ranB (l.getD i z56) with
    | false => rfl
    | true =>
      by_cases h0 : 0 < i
      · have e1 : w64 ((i : Int) - 1) = ((i - 1 : Nat) : Int) := by rw [w64_id (by omega) (by omega)]; omega
        have e2 : decide ((0 : Int) < (i : Int)) = true := dcT (by omega)
        rw [e2, e1, dcT (Int.natCast_nonneg (i - 1)), Int.toNat_natCast, i_lt, dcT (by omega : i - 1 < l.length), dcT h0]
        cases lessR (l.getD (i - 1) z56) (l.getD i z56) <;> cases pairE l i i 0 <;> simp only [cond_true, cond_false, Bool.true_and, Bool.false_and, Bool.not_true, Bool.not_false, Option.bind_some, w64_succ (by omega : i < 4611686018427387904), ih]
      · have e2 : decide ((0 : Int) < (i : Int)) = false := dcF (by omega)
        rw [e2, dcF h0]
        cases pairE l i i 0 <;> simp only [cond_true, cond_false, Bool.true_and, Bool.false_and, Option.bind_some, w64_succ (by omega : i < 4611686018427387904), ih]
theorem chkD_all (l : List GRange) : ∀ n i, chkD l n i = true ↔ ∀ q, i ≤ q → q < i + n → okE l q = true
  | 0, i => by simp [chkD]; omega
  | n + 1, i => by
    simp only [chkD, Bool.and_eq_true, chkD_all l n (i + 1)]
    constructor
    · rintro ⟨h1, h2⟩ q hq hq'
      rcases Nat.eq_or_lt_of_le hq with rfl | h
      · exact h1
      · exact h2 q h (by omega)
    · intro h
      exact ⟨h i (Nat.le_refl i) (by omega), fun q hq hq' => h q (by omega) (by omega)⟩
theorem pairE_all (l : List GRange) (i : Nat) : ∀ n j, pairE l i n j = true ↔ ∀ q, j ≤ q → q < j + n → ovE (l.getD q z56) (l.getD i z56) = false
  | 0, j => by simp [pairE]; omega
  | n + 1, j => by
    simp only [pairE, Bool.and_eq_true, pairE_all l i n (j + 1)]
    constructor
    · rintro ⟨h1, h3⟩ q hq hq'
      rcases Nat.eq_or_lt_of_le hq with rfl | h
      · simpa using h1
      · exact h3 q h (by omega)
    · intro h
      exact ⟨by simpa using h j (Nat.le_refl j) (by omega), fun q hq hq' => h q (by omega) (by omega)⟩
theorem rightE_iff (l : List GRange) : chkD l l.length 0 = true ↔ RightR l := by
  rw [chkD_all]
  constructor
  · intro h
    have h' : ∀ q, q < l.length → okE l q = true := fun q hq => h q (Nat.zero_le _) (by omega)
    rw [← rightR_iff, chkQ_all]
    intro q _ hq
    have hq : q < l.length := by omega
    have a := h' q hq
    unfold okE at a
    simp only [Bool.and_eq_true] at a
    obtain ⟨a1, a2, a3⟩ := a
    unfold okQ
    rw [a1, Bool.true_and]
    by_cases h0 : 0 < q
    · rw [dcT h0, cond_true, lessR_cmp] at a2
      rw [dcT h0, cond_true, a2, Bool.true_and]
      have b := h' (q - 1) (by omega)
      unfold okE at b
      simp only [Bool.and_eq_true] at b
      rw [ov_same b.1 a1, (pairE_all l q q 0).1 a3 (q - 1) (Nat.zero_le _) (by omega)]
      rfl
    · rw [dcF h0]; rfl
  · intro h q _ hq
    have hq : q < l.length := by omega
    have h2 := List.pairwise_iff_getElem.1 h.2
    unfold okE
    simp only [Bool.and_eq_true]
    refine ⟨by rw [getR hq]; exact h.1 _ (List.getElem_mem hq), ?_, (pairE_all l q q 0).2 fun j _ hj => ?_⟩
    · by_cases h0 : 0 < q
      · rw [dcT h0, cond_true, lessR_cmp, getR hq, getR (by omega : q - 1 < l.length)]
        exact dcT (h2 (q - 1) q (by omega) hq (by omega)).1
      · rw [dcF h0]; rfl
    · have hj : j < q := by omega
      rw [getR hq, getR (by omega : j < l.length)]
      have h3 := h2 j q (by omega) hq hj
      cases hv : ovE l[j] l[q] with
      | false => rfl
      | true =>
        rw [ovE_iff] at hv
        unfold ovD at hv
        have := h3.2 hv.1 hv.2.1
        omega
theorem ref07_Right_spec (l : List GRange) (k : Nat) (hs : l.length ≤ 1000000000) (hk : 2 * l.length < k) : rf07_Right k l = some (rightQ l) := by
  have hch : chkD l l.length 0 = chkQ l l.length 0 := by rw [Bool.eq_iff_iff, rightE_iff, rightR_iff]
  unfold rf07_Right rightQ
  have := RightE_L0_spec l hs l.length 0 k (by omega) (by omega) (by omega)
  rw [Int.natCast_zero] at this
  simp only [this, Option.bind_some, hch]
  cases chkQ l l.length 0 with
  | false => rfl
  | true =>
    simp only [cond_true, Bool.true_and]
    by_cases h : l.length ≤ 4096
    · rw [dcT h, dcT (show Int.ofNat l.length ≤ 4096 from by have : Int.ofNat l.length = (l.length : Int) := rfl; omega)]; rfl
    · rw [dcF h, dcF (show ¬ Int.ofNat l.length ≤ 4096 from by have : Int.ofNat l.length = (l.length : Int) := rfl; omega)]; rfl
theorem SameE_L0_spec (a b : List GRange) (hs : a.length < 4611686018427387904) (hl : a.length = b.length) : ∀ (n i k : Nat), a.length - i = n → n < k → rf07_Same_L0 k (a, b, (i : Int)) = some (sameI a b i)
  | 0, i, k + 1, hn, hk => by
    rw [sameI_end (by omega) hl]
    simp only [rf07_Same_L0]
    rw [i_lt, dcF (by omega)]
    rfl
  | n + 1, i, k + 1, hn, hk => by
    have hi : i < a.length := by omega
    rw [sameI_step (0, 0, 0, 0, 0) hi hl]
    simp only [rf07_Same_L0, eq5]
    rw [i_lt, dcT hi, dcT (Int.natCast_nonneg i), i_lt, dcT (hl ▸ hi : i < b.length)]
    simp only [cond_true, Int.toNat_natCast, w64_succ (by omega : i < 4611686018427387904), SameE_L0_spec a b hs hl n (i + 1) k (by omega) (by omega)]
    by_cases h : a.getD i (0, 0, 0, 0, 0) = b.getD i (0, 0, 0, 0, 0)
    · rw [if_pos h, dcT h]; rfl
    · rw [if_neg h, dcF h]; rfl
theorem ref07_Same_spec (a b : List GRange) (k : Nat) (hs : a.length < 4611686018427387904) (hk : a.length < k) : rf07_Same k (a, b) = some (decide (a = b)) := by
  unfold rf07_Same
  dsimp only
  by_cases hl : a.length = b.length
  · have := SameE_L0_spec a b hs hl a.length 0 k (by omega) hk
    rw [Int.natCast_zero] at this
    rw [dcT (by rw [hl] : Int.ofNat a.length = Int.ofNat b.length)]
    simp only [this, Bool.not_true, cond_false, Option.bind_some]
    unfold sameI
    by_cases h : a = b <;> simp [h]
  · have : ¬ a = b := fun h => hl (by rw [h])
    have h' : ¬ (Int.ofNat a.length = Int.ofNat b.length) := fun h => hl (Int.ofNat.inj h)
    rw [dcF h', dcF this]
    rfl
end Ex
end Go.Proofs.YthlhbnaloefncaaGreatDoor
