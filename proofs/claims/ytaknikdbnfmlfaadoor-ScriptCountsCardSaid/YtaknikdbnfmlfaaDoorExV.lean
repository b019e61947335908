/- An executor of translated code on abstract states, twenty-second part: blocks that are let go of (nobody writes them any more). -/
import Derived.Test.YtaknikdbnfmlfaaDoorExT
namespace Go.Proofs.YtaknikdbnfmlfaaDoor.Ex
open Go Go.RowKit
set_option linter.unusedVariables false
set_option linter.unusedSimpArgs false
mutual
def PV.sub (f : Nat → Option PV) (g : Nat → Nat → Option PV) : PV → PV
  | .own i => match f i with
    | some p => p
    | none => .own i
  | .ptr i off => match g i off with
    | some p => p
    | none => .ptr i off
  | .fn n caps => .fn n (subL f g caps)
  | .agg cs => .agg (subL f g cs)
  | .tup vs => .tup (subL f g vs)
  | .un => .un
  | .v x => .v x
  | .row fr s l => .row fr s l
  | .rptr fr s x off => .rptr fr s x off
  | .eptr i j sz off => .eptr i j sz off
  | .mp i => .mp i
  | .ocut i j sz => .ocut i j sz
  | .prow i o => .prow i o
  | .pcel i o => .pcel i o
  | .rmap ks vs => .rmap ks (subL f g vs)
def subL (f : Nat → Option PV) (g : Nat → Nat → Option PV) : List PV → List PV
  | [] => []
  | x :: r => x.sub f g :: subL f g r
end
def ABlk.sub (f : Nat → Option PV) (g : Nat → Nat → Option PV) : ABlk → ABlk
  | .box T cs => .box T (subL f g cs)
  | .own fr T s l => .own fr T s l
  | .mset l => .mset l
  | .obj n x j => .obj n x j
  | .no => .no
def subS (S : AS) (i : Nat) (f : Nat → Option PV) (g : Nat → Nat → Option PV) : AS := ⟨fun t => (S.fr t).sub f g, fun j => bif Nat.beq j i then .no else (S.σ j).sub f g⟩
def kOf : PV → Option SK
  | .v v => match v with
    | .int k _ => some (.int k)
    | .bool _ => some .bool
    | .string _ => some .str
    | _ => none
  | .fn f caps => bif caps.isEmpty then some (.fnc f) else none
  | _ => none
def ksOf : List PV → Option (List SK)
  | [] => some []
  | x :: r => match kOf x, ksOf r with
    | some k, some ks => some (k :: ks)
    | _, _ => none
def frzO (S : AS) (i : Nat) : AS := match S.σ i with
  | .own fr T s l => subS S i (fun j => bif Nat.beq j i then some (.row fr s l) else none) (fun _ _ => none)
  | _ => S
def frzB (S : AS) (i : Nat) : AS := match S.σ i with
  | .box T cs => match ksOf cs with
    | some s => match unT S s cs with
      | some (x, f, l) => bif l.isEmpty && s.all flatK then subS S i (fun _ => none) (fun j off => bif Nat.beq j i then some (.rptr true s x off) else none) else S
      | none => S
    | none => S
  | _ => S
section
variable {w0 : Org} {w : World} {N : Nat} {m m' : Nm} {S : AS} {a : Act} {B0 : Nat}
mutual
theorem RepV.sub {f : Nat → Option PV} {g : Nat → Nat → Option PV} (hG : Grows (fun _ => true) m m' w w) (hf : ∀ i p v, f i = some p → RepV m B0 w (.own i) v → RepV m' B0 w p v) (hg : ∀ i off p v, g i off = some p → RepV m B0 w (.ptr i off) v → RepV m' B0 w p v) :
    ∀ {x : PV} {v : Value}, RepV m B0 w x v → RepV m' B0 w (x.sub f g) v
  | .own i, v, h => by
    simp only [PV.sub]
    split
    · rename_i p hp
      exact hf i p v hp h
    · exact RepV.move hG h ids_all
  | .ptr i off, v, h => by
    simp only [PV.sub]
    split
    · rename_i p hp
      exact hg i off p v hp h
    · exact RepV.move hG h ids_all
  | .fn n caps, v, h => by
    cases h with | fn h =>
    simp only [PV.sub]
    exact .fn (RepVs.sub hG hf hg h)
  | .agg cs, v, h => by
    cases h with | agg h =>
    simp only [PV.sub]
    exact .agg (RepVs.sub hG hf hg h)
  | .tup cs, v, h => by
    cases h with | tup h =>
    simp only [PV.sub]
    exact .tup (RepVs.sub hG hf hg h)
  | .un, v, h => by simp only [PV.sub]; exact .un
  | .v x, v, h => by simp only [PV.sub]; exact RepV.move hG h ids_all
  | .row fr s l, v, h => by simp only [PV.sub]; exact RepV.move hG h ids_all
  | .rptr fr s x off, v, h => by simp only [PV.sub]; exact RepV.move hG h ids_all
  | .eptr i j sz off, v, h => by simp only [PV.sub]; exact RepV.move hG h ids_all
  | .mp i, v, h => by simp only [PV.sub]; exact RepV.move hG h ids_all
  | .ocut i j sz, v, h => by simp only [PV.sub]; exact RepV.move hG h ids_all
  | .prow i o, v, h => by simp only [PV.sub]; exact RepV.move hG h ids_all
  | .pcel i o, v, h => by simp only [PV.sub]; exact RepV.move hG h ids_all
  | .rmap ks vs, v, h => by
    cases h with | rmap h1 h2 h3 h4 h5 =>
    simp only [PV.sub]
    exact .rmap (hG.F _ h1).1 (RepVs.sub hG hf hg h2) h3 ((hG.F _ h1).2.trans h4) h5
theorem RepVs.sub {f : Nat → Option PV} {g : Nat → Nat → Option PV} (hG : Grows (fun _ => true) m m' w w) (hf : ∀ i p v, f i = some p → RepV m B0 w (.own i) v → RepV m' B0 w p v) (hg : ∀ i off p v, g i off = some p → RepV m B0 w (.ptr i off) v → RepV m' B0 w p v) :
    ∀ {x : List PV} {v : List Value}, RepVs m B0 w x v → RepVs m' B0 w (subL f g x) v
  | [], _, .nil => by simp only [subL]; exact .nil
  | _ :: _, _, .cons h hs => by simp only [subL]; exact .cons (RepV.sub hG hf hg h) (RepVs.sub hG hf hg hs)
end
theorem blkOf_sub {f : Nat → Option PV} {g : Nat → Nat → Option PV} {i : Nat} {b : ABlk} : blkOf m i (b.sub f g) = blkOf m i b := by cases b <;> rfl
/-- A block is let go of: k is its number, if it has one. -/
theorem Rep.sub {f : Nat → Option PV} {g : Nat → Nat → Option PV} {i : Nat} {F' : Nat → Prop} (hr : Rep w0 N m S a w) (hF : ∀ k, m.F k → F' k) (hF' : ∀ k, F' k → m.F k ∨ blkOf m i (S.σ i) k)
    (hf : ∀ j p v, f j = some p → RepV m w0.heap.size w (.own j) v → RepV ⟨m.v, m.b, F'⟩ w0.heap.size w p v) (hg : ∀ j off p v, g j off = some p → RepV m w0.heap.size w (.ptr j off) v → RepV ⟨m.v, m.b, F'⟩ w0.heap.size w p v) : Rep w0 N ⟨m.v, m.b, F'⟩ (subS S i f g) a w := by
  have hG : Grows (fun _ => true) m ⟨m.v, m.b, F'⟩ w w := ⟨fun _ _ => rfl, fun _ _ => rfl, fun b hb => ⟨hF b hb, rfl⟩⟩
  have hne : ∀ j k, j ≠ i → blkOf m j (S.σ j) k → ¬ F' k := fun j k hj hk hFk => by
    rcases hF' k hFk with h | h
    · exact (blk_lt hr.heap hk).2.1 h
    · exact hr.heap.apart j i k hj hk h
  refine ⟨hr.size, hr.nodef, fun t => RepV.sub hG hf hg (hr.get t), ⟨fun j => ?_, fun j l k hjl h1 h2 => ?_, fun k hk => ?_, hr.heap.below, fun k ob hk => ⟨hF k (hr.heap.kept k ob hk).1, (hr.heap.kept k ob hk).2⟩⟩⟩
  · show BlkIs _ _ _ j (bif Nat.beq j i then .no else (S.σ j).sub f g)
    cases hb : Nat.beq j i with
    | true => trivial
    | false =>
      have hji := Nat.ne_of_beq_eq_false hb
      have h1 := hr.heap.blk j
      have h2 := hne j
      simp only [cond_false]
      cases hσ : S.σ j with
      | no => trivial
      | box T cs =>
        rw [hσ] at h1 h2
        obtain ⟨b1, b2, vs, b3, b4⟩ := h1
        exact ⟨b1, h2 _ hji rfl, vs, RepVs.sub hG hf hg b3, b4⟩
      | own fr T s l =>
        rw [hσ] at h1 h2
        obtain ⟨xs, b1, b2, b3⟩ := h1
        exact ⟨xs, b1, RowsIs.move (hG.ok _ _) b2, fun k hk => h2 k hji hk⟩
      | mset l =>
        rw [hσ] at h1 h2
        obtain ⟨b1, b2, es, cl, b3, b4⟩ := h1
        exact ⟨b1, h2 _ hji rfl, es, cl, b3, b4⟩
      | obj n x j =>
        rw [hσ] at h1 h2
        obtain ⟨b1, b2⟩ := h1
        exact ⟨fun k hk => ⟨(b1 k hk).1, (b1 k hk).2.1, h2 k hji hk⟩, OIs_move b2 (fun _ _ => rfl) (fun k hk => ⟨hF k hk, rfl⟩)⟩
  · have key : ∀ q c, blkOf ⟨m.v, m.b, F'⟩ q (bif Nat.beq q i then .no else (S.σ q).sub f g) c → blkOf m q (S.σ q) c := fun q c h => by
      cases hb : Nat.beq q i with
      | true => rw [hb] at h; cases h
      | false =>
        rw [hb] at h
        have h' : blkOf m q ((S.σ q).sub f g) c := h
        rwa [blkOf_sub] at h'
    exact hr.heap.apart j l k hjl (key j k h1) (key l k h2)
  · rcases hF' k hk with h | h
    · exact hr.heap.flt k h
    · exact (blk_lt hr.heap h).1
theorem frzO_ok (hr : Rep w0 N m S a w) (i : Nat) : ∃ m', Rep w0 N m' (frzO S i) a w := by
  unfold frzO
  split
  · rename_i fr T s l hσ
    refine ⟨_, hr.sub (F' := fun k => m.F k ∨ blkOf m i (S.σ i) k) (fun k h => .inl h) (fun k h => h) (fun j p v hp hv => ?_) (fun j off p v hp hv => by cases hp)⟩
    cases hb : Nat.beq j i with
    | false => rw [hb] at hp; cases hp
    | true =>
      rw [hb] at hp
      cases hp
      have := Nat.eq_of_beq_eq_true hb
      subst this
      cases hv with | own hx =>
      have h1 := hr.heap.blk j
      rw [hσ] at h1
      obtain ⟨xs, b1, b2, b3⟩ := h1
      refine .row ?_
      rw [← hx]
      refine own_is b1 (RowsIs.move (fun b hb => ⟨⟨.inl hb.1, hb.2⟩, rfl⟩) b2) (fun k hk => ?_)
      have hk' : blkOf m j (S.σ j) k := by rw [hσ]; exact hk
      exact ⟨.inr hk', fun _ => (blk_lt hr.heap hk').2.2⟩
  · exact ⟨m, hr⟩
theorem frzB_ok (hr : Rep w0 N m S a w) (i : Nat) : ∃ m', Rep w0 N m' (frzB S i) a w := by
  unfold frzB
  split
  · rename_i T cs hσ
    split
    · rename_i s hs
      split
      · rename_i x f l hx
        cases hc : (l.isEmpty && s.all flatK) with
        | false => exact ⟨m, hr⟩
        | true =>
          rw [Bool.and_eq_true] at hc
          have hl : l = [] := by simpa using hc.1
          subst hl
          refine ⟨_, hr.sub (F' := fun k => m.F k ∨ blkOf m i (S.σ i) k) (fun k h => .inl h) (fun k h => h) (fun j p v hp hv => by cases hp) (fun j off p v hp hv => ?_)⟩
          cases hb : Nat.beq j i with
          | false => rw [hb] at hp; cases hp
          | true =>
            rw [hb] at hp
            cases hp
            have := Nat.eq_of_beq_eq_true hb
            subst this
            cases hv
            have h1 := hr.heap.blk j
            rw [hσ] at h1
            obtain ⟨b1, b2, vs, b3, b4⟩ := h1
            have ht := unT_ok hr hx b3
            have hk' : blkOf m j (S.σ j) (m.b j) := by rw [hσ]; rfl
            have := RepV.rptr (m := ⟨m.v, m.b, fun k => m.F k ∨ blkOf m j (S.σ j) k⟩) (B0 := w0.heap.size) (w := w) (fr := true) (s := s) (x := x) (off := off) (b := m.b j) (o := 0) (by
              simp only [SKIs]
              exact ⟨m.b j, 0, vs, rfl, ⟨.inr hk', fun _ => b1⟩, TupIs.len ht, CellsAt.of_block b4, TupIs.flat hc.2 ht⟩)
            rwa [Nat.zero_add] at this
      · exact ⟨m, hr⟩
    · exact ⟨m, hr⟩
  · exact ⟨m, hr⟩
end
end Go.Proofs.YtaknikdbnfmlfaaDoor.Ex
