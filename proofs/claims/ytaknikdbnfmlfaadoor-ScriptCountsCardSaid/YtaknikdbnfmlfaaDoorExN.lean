/- An executor of translated code on abstract states, fourteenth part: the step of a call. -/
import Derived.Test.YtaknikdbnfmlfaaDoorExM
import Derived.MapKept
namespace Go.Proofs.YtaknikdbnfmlfaaDoor.Ex
open Go Go.RowKit
set_option linter.unusedVariables false
set_option linter.unusedSimpArgs false
/-! ### results laid into a state -/
def enL (id : Nat) : (k : LK) → k.ty → PV × List ABlk
  | .sc k, x => (cellK true k x, [])
  | .row T s, l => (.own id, [.own true T s l])
  | .ptr _, _ => (.un, [])
  | .fnc f ss, x => (.fn f (capPs true ss x), [])
def enLs (id : Nat) : (s : List LK) → LT s → List PV × List ABlk
  | [] => fun _ => ([], [])
  | k :: r => match r with
    | [] => fun x => match enL id k x with
      | (p, b) => ([p], b)
    | k' :: r' => fun x => match enL id k x.1 with
      | (p, b) => match enLs (id + b.length) (k' :: r') x.2 with
        | (ps, bs) => (p :: ps, b ++ bs)
def enP (id : Nat) (p : PK) (x : p.ty) : PV × List ABlk := match p, x with
  | .one l, x => enL id l x
  | .agg ls, x => match enLs id ls x with
    | (ps, bs) => (.agg ps, bs)
def enPs (id : Nat) : (s : List PK) → PT s → List PV × List ABlk
  | [] => fun _ => ([], [])
  | k :: r => match r with
    | [] => fun x => match enP id k x with
      | (p, b) => ([p], b)
    | k' :: r' => fun x => match enP id k x.1 with
      | (p, b) => match enPs (id + b.length) (k' :: r') x.2 with
        | (ps, bs) => (p :: ps, b ++ bs)
def numb (id : Nat) : List ABlk → List (Nat × ABlk)
  | [] => []
  | b :: r => (id, b) :: numb (id + 1) r
def retPV : List PV → PV
  | [p] => p
  | ps => .tup ps
section
variable {m' : Nm} {base B0 : Nat} {Fz : Nat → Prop} {w' : World}
/-- The rows of a result under their names. -/
structure Named (m' : Nm) (B0 : Nat) (w' : World) (id : Nat) (rv : List Value) (bs : List ABlk) : Prop where
  len : rv.length = bs.length
  blk : ∀ i b, bs[i]? = some b → (∃ T s l, b = .own true T s l) ∧ BlkIs m' B0 w' (id + i) b
theorem Named.app {id : Nat} {r1 r2 : List Value} {b1 b2 : List ABlk} (h1 : Named m' B0 w' id r1 b1) (h2 : Named m' B0 w' (id + b1.length) r2 b2) : Named m' B0 w' id (r1 ++ r2) (b1 ++ b2) := by
  refine ⟨by simp [h1.len, h2.len], fun i b hb => ?_⟩
  by_cases hi : i < b1.length
  · rw [List.getElem?_append_left hi] at hb
    exact h1.blk i b hb
  · rw [List.getElem?_append_right (by omega)] at hb
    have := h2.blk _ b hb
    rwa [show id + b1.length + (i - b1.length) = id + i by omega] at this
/-- What is asked of the names: each row's value, and nobody writes what the results lead to. -/
structure Gives (m' : Nm) (B0 : Nat) (Fz : Nat → Prop) (id : Nat) (rv : List Value) : Prop where
  v : ∀ (i : Nat) (u : Value), rv[i]? = some u → m'.v (id + i) = u
  f : ∀ u ∈ rv, ∀ k, u.ownBlock = some k → ¬ m'.F k
  F : ∀ k, Fz k → m'.F k ∧ B0 ≤ k
theorem Gives.left {id : Nat} {r1 r2 : List Value} (h : Gives m' B0 Fz id (r1 ++ r2)) : Gives m' B0 Fz id r1 := ⟨fun i u hu => h.v i u (by rw [List.getElem?_append_left (List.getElem?_eq_some_iff.1 hu).1]; exact hu), fun u hu => h.f u (List.mem_append_left _ hu), h.F⟩
theorem Gives.right {id n : Nat} {r1 r2 : List Value} (h : Gives m' B0 Fz id (r1 ++ r2)) (hn : r1.length = n) : Gives m' B0 Fz (id + n) r2 := ⟨fun i u hu => by
  have := h.v (n + i) u (by rw [List.getElem?_append_right (by omega)]; rw [show n + i - r1.length = i by omega]; exact hu)
  rwa [← Nat.add_assoc] at this, fun u hu => h.f u (List.mem_append_right _ hu), h.F⟩
theorem Gives.stays {id : Nat} {rv : List Value} (h : Gives m' B0 Fz id rv) : Stays Fz (okOf m' B0 true) w' w' := fun k hk => ⟨⟨(h.F k hk).1, fun _ => (h.F k hk).2⟩, rfl⟩
theorem enL_ok (hb : B0 ≤ base) {id : Nat} {k : LK} {x : k.ty} {v : Value} {rv : List Value} (h : LKNew base Fz w' k x v rv) (hg : Gives m' B0 Fz id rv) : RepV m' B0 w' (enL id k x).1 v ∧ Named m' B0 w' id rv (enL id k x).2 := by
  cases k with
  | sc k =>
    obtain ⟨rfl, h⟩ := h
    exact ⟨cellK_ok (SKIs.move hg.stays h), ⟨rfl, fun i b hb => by simp [enL] at hb⟩⟩
  | row T s =>
    obtain ⟨rfl, xs, h1, h2⟩ := h
    have hv : m'.v id = v := hg.v 0 v rfl
    have hsl : ∃ A n c, v = .slice A n c := by
      rcases h1.2 with ⟨e, _⟩ | ⟨g, cap, cur, e, _⟩ <;> exact ⟨_, _, _, e⟩
    obtain ⟨A, n, c, rfl⟩ := hsl
    refine ⟨.own hv, ⟨rfl, fun i b hb' => ?_⟩⟩
    cases i with
    | zero =>
      simp only [enL, List.getElem?_cons_zero, Option.some.injEq] at hb'
      subst hb'
      refine ⟨⟨_, _, _, rfl⟩, xs, ?_, RowsIs.move hg.stays h2, fun k hk => ?_⟩
      · rw [Nat.add_zero, hv]
        refine ⟨h1.1, ?_⟩
        rcases h1.2 with h | ⟨g, cap, cur, e, hg', r⟩
        · exact .inl h
        · exact .inr ⟨g, cap, cur, e, Nat.le_trans hb hg', r⟩
      · rw [Nat.add_zero, hv] at hk
        exact hg.f _ (by simp) k hk
    | succ i => simp [enL] at hb'
  | ptr s => exact h.elim
  | fnc f ss =>
    obtain ⟨rfl, cs, rfl, h⟩ := h
    exact ⟨.fn (capPs_ok (CapsIs.move hg.stays h)).1, ⟨rfl, fun i b hb => by simp [enL] at hb⟩⟩
theorem enLs_ok (hb : B0 ≤ base) : ∀ {s : List LK} {id : Nat} {x : LT s} {vs rv : List Value}, LTNew base Fz w' s x vs rv → Gives m' B0 Fz id rv → RepVs m' B0 w' (enLs id s x).1 vs ∧ Named m' B0 w' id rv (enLs id s x).2
  | [], id, x, vs, rv, h, hg => by
    simp only [LTNew] at h
    obtain ⟨rfl, rfl⟩ := h
    simp only [enLs]
    exact ⟨.nil, ⟨rfl, fun i b hb => by simp at hb⟩⟩
  | [k], id, x, vs, rv, h, hg => by
    simp only [LTNew] at h
    obtain ⟨u, rfl, h⟩ := h
    obtain ⟨h1, h2⟩ := enL_ok hb h hg
    simp only [enLs]
    exact ⟨.cons h1 .nil, h2⟩
  | k :: k' :: r, id, x, vs, rv, h, hg => by
    simp only [LTNew] at h
    obtain ⟨u, us, r1, r2, rfl, rfl, ha, hb'⟩ := h
    obtain ⟨h1, h2⟩ := enL_ok hb ha hg.left
    obtain ⟨h3, h4⟩ := enLs_ok hb (id := id + (enL id k x.1).2.length) hb' (hg.right h2.len)
    simp only [enLs]
    exact ⟨.cons h1 h3, h2.app h4⟩
theorem enP_ok (hb : B0 ≤ base) {id : Nat} {p : PK} {x : p.ty} {v : Value} {rv : List Value} (h : PKNew base Fz w' p x v rv) (hg : Gives m' B0 Fz id rv) : RepV m' B0 w' (enP id p x).1 v ∧ Named m' B0 w' id rv (enP id p x).2 := by
  cases p with
  | one l => exact enL_ok hb h hg
  | agg ls =>
    obtain ⟨vs, rfl, h⟩ := h
    obtain ⟨h1, h2⟩ := enLs_ok hb h hg
    exact ⟨.agg h1, h2⟩
theorem enPs_ok (hb : B0 ≤ base) : ∀ {s : List PK} {id : Nat} {x : PT s} {vs rv : List Value}, PTNew base Fz w' s x vs rv → Gives m' B0 Fz id rv → RepVs m' B0 w' (enPs id s x).1 vs ∧ Named m' B0 w' id rv (enPs id s x).2
  | [], id, x, vs, rv, h, hg => by
    simp only [PTNew] at h
    obtain ⟨rfl, rfl⟩ := h
    simp only [enPs]
    exact ⟨.nil, ⟨rfl, fun i b hb => by simp at hb⟩⟩
  | [k], id, x, vs, rv, h, hg => by
    simp only [PTNew] at h
    obtain ⟨u, rfl, h⟩ := h
    obtain ⟨h1, h2⟩ := enP_ok hb h hg
    simp only [enPs]
    exact ⟨.cons h1 .nil, h2⟩
  | k :: k' :: r, id, x, vs, rv, h, hg => by
    simp only [PTNew] at h
    obtain ⟨u, us, r1, r2, rfl, rfl, ha, hb'⟩ := h
    obtain ⟨h1, h2⟩ := enP_ok hb ha hg.left
    obtain ⟨h3, h4⟩ := enPs_ok hb (id := id + (enP id k x.1).2.length) hb' (hg.right h2.len)
    simp only [enPs]
    exact ⟨.cons h1 h3, h2.app h4⟩
end
theorem retPV_ok {m : Nm} {B0 : Nat} {w : World} {ps : List PV} {vs : List Value} (h : RepVs m B0 w ps vs) : RepV m B0 w (retPV ps) (retV vs) := by
  cases h with
  | nil => exact .tup .nil
  | cons h hs =>
    cases hs with
    | nil => exact h
    | cons h2 hs => exact .tup (.cons h (.cons h2 hs))
theorem updσ_numb (σ : Nat → ABlk) : ∀ (bs : List ABlk) (id j : Nat), updσ σ (numb id bs) j = match (if id ≤ j then bs[j - id]? else none) with
    | some b => b
    | none => σ j
  | [], id, j => by
    simp only [numb, updσ]
    split <;> simp_all
  | b :: bs, id, j => by
    show updσ (fun k => bif Nat.beq k id then b else σ k) (numb (id + 1) bs) j = _
    rw [updσ_numb _ bs (id + 1) j]
    by_cases h1 : id + 1 ≤ j
    · rw [if_pos h1, if_pos (by omega)]
      rw [show j - id = (j - (id + 1)) + 1 by omega, List.getElem?_cons_succ]
      cases bs[j - (id + 1)]? with
      | some c => rfl
      | none =>
        have hb : Nat.beq j id = false := by
          cases hq : Nat.beq j id with
          | true => have := Nat.eq_of_beq_eq_true hq; omega
          | false => rfl
        simp [hb]
    · rw [if_neg h1]
      by_cases h2 : id ≤ j
      · have : j = id := by omega
        subst this
        simp
      · have hb : Nat.beq j id = false := by
          cases hq : Nat.beq j id with
          | true => have := Nat.eq_of_beq_eq_true hq; omega
          | false => rfl
        simp [hb, h2]
theorem Apart.ne : ∀ {rv : List Value}, Apart rv → ∀ (i j : Nat) (u v : Value) (k : Nat), i ≠ j → rv[i]? = some u → rv[j]? = some v → u.ownBlock = some k → v.ownBlock = some k → False
  | [], _, i, j, u, v, k, _, hu, _, _, _ => by simp at hu
  | x :: r, h, i, j, u, v, k, hij, hu, hv, h1, h2 => by
    cases i with
    | zero =>
      cases j with
      | zero => exact hij rfl
      | succ j =>
        simp only [List.getElem?_cons_zero, Option.some.injEq] at hu
        subst hu
        exact h.1 v (List.mem_of_getElem? (by simpa using hv)) k h1 h2
    | succ i =>
      cases j with
      | zero =>
        simp only [List.getElem?_cons_zero, Option.some.injEq] at hv
        subst hv
        exact h.1 u (List.mem_of_getElem? (by simpa using hu)) k h2 h1
      | succ j => exact Apart.ne h.2 i j u v k (by omega) (by simpa using hu) (by simpa using hv) h1 h2
/-- Names for new rows. -/
def nameRows (f : Nat → Value) (id : Nat) (rv : List Value) : Nat → Value := fun j => match (if id ≤ j then rv[j - id]? else none) with
  | some v => v
  | none => f j
theorem nameRows_at {f : Nat → Value} {id i : Nat} {rv : List Value} {u : Value} (h : rv[i]? = some u) : nameRows f id rv (id + i) = u := by
  unfold nameRows
  rw [if_pos (by omega), show id + i - id = i by omega, h]
theorem nameRows_old {f : Nat → Value} {id i : Nat} {rv : List Value} (hl : rv.length ≤ 8) (h : old id i = true) : nameRows f id rv i = f i := by
  unfold nameRows
  split
  · rename_i v hv
    split at hv
    · rename_i h1
      have h2 := (List.getElem?_eq_some_iff.1 hv).1
      have h3 := old_ne (k := i - id) (by omega) h
      omega
    · cases hv
  · rfl
section
variable {base : Nat} {Fz : Nat → Prop} {w' : World}
theorem rowL_ge {k : LK} {x : k.ty} {v : Value} {rv : List Value} (h : LKNew base Fz w' k x v rv) : ∀ u ∈ rv, ∀ q, u.ownBlock = some q → base ≤ q := by
  cases k with
  | sc k => obtain ⟨rfl, _⟩ := h; intro u hu; cases hu
  | fnc f ss => obtain ⟨rfl, _⟩ := h; intro u hu; cases hu
  | row T s =>
    obtain ⟨rfl, xs, h1, h2⟩ := h
    intro u hu q hq
    simp at hu
    subst hu
    exact (h1.lt q hq).1
  | ptr s => exact h.elim
theorem rowLs_ge : ∀ {s : List LK} {x : LT s} {vs rv : List Value}, LTNew base Fz w' s x vs rv → ∀ u ∈ rv, ∀ q, u.ownBlock = some q → base ≤ q
  | [], x, vs, rv, h => by simp only [LTNew] at h; obtain ⟨rfl, rfl⟩ := h; intro u hu; cases hu
  | [k], x, vs, rv, h => by simp only [LTNew] at h; obtain ⟨u, rfl, h⟩ := h; exact rowL_ge h
  | k :: k' :: r, x, vs, rv, h => by
    simp only [LTNew] at h
    obtain ⟨u, us, r1, r2, rfl, rfl, ha, hb⟩ := h
    intro u hu
    rcases List.mem_append.1 hu with hu | hu
    · exact rowL_ge ha u hu
    · exact rowLs_ge hb u hu
theorem rowP_ge {p : PK} {x : p.ty} {v : Value} {rv : List Value} (h : PKNew base Fz w' p x v rv) : ∀ u ∈ rv, ∀ q, u.ownBlock = some q → base ≤ q := by
  cases p with
  | one l => exact rowL_ge h
  | agg ls => obtain ⟨vs, rfl, h⟩ := h; exact rowLs_ge h
theorem rows_ge : ∀ {s : List PK} {x : PT s} {vs rv : List Value}, PTNew base Fz w' s x vs rv → ∀ u ∈ rv, ∀ q, u.ownBlock = some q → base ≤ q
  | [], x, vs, rv, h => by simp only [PTNew] at h; obtain ⟨rfl, rfl⟩ := h; intro u hu; cases hu
  | [k], x, vs, rv, h => by simp only [PTNew] at h; obtain ⟨u, rfl, h⟩ := h; exact rowP_ge h
  | k :: k' :: r, x, vs, rv, h => by
    simp only [PTNew] at h
    obtain ⟨u, us, r1, r2, rfl, rfl, ha, hb⟩ := h
    intro u hu
    rcases List.mem_append.1 hu with hu | hu
    · exact rowP_ge ha u hu
    · exact rows_ge hb u hu
end
/-- The step from a world to one behind a call: what was there stands, and its results are named. -/
theorem Heap.call {w0 : Org} {w w' : World} {m : Nm} {S : AS} {id0 : Nat} {R : List PK} {x : PT R} {v : Value} (h : Heap w0 m S.σ w) (hf : Fresh id0 S) (hr : Rets R w w' x v) (hb : Below w.heap.size w w') (h8 : (enPs id0 R x).2.length ≤ 8) :
    ∃ m', Grows (old id0) m m' w w' ∧ Heap w0 m' (updσ S.σ (numb id0 (enPs id0 R x).2)) w' ∧ RepV m' w0.heap.size w' (retPV (enPs id0 R x).1) v := by
  obtain ⟨vs, rv, Fz, rfl, hn, hap, hnF, hFz⟩ := hr.ex
  let m' : Nm := ⟨nameRows m.v id0 rv, m.b, fun k => m.F k ∨ Fz k⟩
  have hb0 : w0.heap.size ≤ w.heap.size := h.below.size
  have hge : ∀ u ∈ rv, ∀ k, u.ownBlock = some k → ¬ m.F k → ¬ m'.F k := fun u hu k hk h1 h2 => h2.elim h1 (hnF u hu k hk)
  -- the rows' blocks lie behind w
  have key : ∀ (hrow : ∀ u ∈ rv, ∀ k, u.ownBlock = some k → w.heap.size ≤ k), ∃ m', Grows (old id0) m m' w w' ∧ Heap w0 m' (updσ S.σ (numb id0 (enPs id0 R x).2)) w' ∧ RepV m' w0.heap.size w' (retPV (enPs id0 R x).1) (retV vs) := by
    intro hrow
    have hG : Gives m' w0.heap.size Fz id0 rv := ⟨fun i u hu => nameRows_at hu, fun u hu k hk => hge u hu k hk (fun hF => by have := h.flt k hF; have := hrow u hu k hk; omega), fun k hk => ⟨.inr hk, Nat.le_trans hb0 (hFz k hk).1⟩⟩
    obtain ⟨h1, h2⟩ := enPs_ok hb0 hn hG
    have hl8 : rv.length ≤ 8 := by rw [h2.len]; exact h8
    have hg : Grows (old id0) m m' w w' := ⟨fun i hi => nameRows_old hl8 hi, fun _ _ => rfl, fun k hk => ⟨.inl hk, hb.block k (h.flt k hk)⟩⟩
    refine ⟨m', hg, ?_, retPV_ok h1⟩
    generalize hbs : (enPs id0 R x).2 = bs at h2 h8 ⊢
    have hU : ∀ i, (∃ j, j < bs.length ∧ i = id0 + j) → ∃ j b, i = id0 + j ∧ bs[j]? = some b ∧ updσ S.σ (numb id0 bs) i = b := fun i ⟨j, hj, hi⟩ => by
      refine ⟨j, bs[j], hi, List.getElem?_eq_getElem hj, ?_⟩
      rw [updσ_numb, hi, if_pos (by omega), show id0 + j - id0 = j by omega, List.getElem?_eq_getElem hj]
    have hN : ∀ i, ¬ (∃ j, j < bs.length ∧ i = id0 + j) → updσ S.σ (numb id0 bs) i = S.σ i := fun i hi => by
      rw [updσ_numb]
      split
      · rename_i b hb'
        split at hb'
        · exact absurd ⟨i - id0, (List.getElem?_eq_some_iff.1 hb').1, by omega⟩ hi
        · cases hb'
      · rfl
    have hrv : ∀ j b k, bs[j]? = some b → blkOf m' (id0 + j) b k → ∃ u ∈ rv, rv[j]? = some u ∧ u.ownBlock = some k := fun j b k hj hk => by
      obtain ⟨⟨T, s, l, rfl⟩, _⟩ := h2.blk j b hj
      have hjl : j < rv.length := by rw [h2.len]; exact (List.getElem?_eq_some_iff.1 hj).1
      refine ⟨rv[j], List.getElem_mem hjl, List.getElem?_eq_getElem hjl, ?_⟩
      have : (nameRows m.v id0 rv (id0 + j)).ownBlock = some k := hk
      rwa [nameRows_at (List.getElem?_eq_getElem hjl)] at this
    refine Heap.step (fun i => ∃ j, j < bs.length ∧ i = id0 + j) h hg hf.σ (fun i hi => ⟨hN i hi, hf.p i⟩) (fun i k hi hk => ⟨hb.block k (blk_lt h hk).1, fun hF => hF.elim (blk_lt h hk).2.1 (fun hz => by have := (hFz k hz).1; have := (blk_lt h hk).1; omega)⟩) (fun i hi => ?_) (fun i j k hij hi h3 h4 => ?_) (fun k hk => hk.elim (fun h5 => Nat.lt_of_lt_of_le (h.flt k h5) hb.size) (fun hz => (hFz k hz).2)) (h.below.trans (hb.mono hb0))
    · obtain ⟨j, b, rfl, hj, he⟩ := hU i hi
      rw [he]
      exact (h2.blk j b hj).2
    · obtain ⟨q, b, rfl, hq, he⟩ := hU i hi
      rw [he] at h3
      obtain ⟨u, hu, huq, huk⟩ := hrv q b k hq h3
      by_cases hj : ∃ q', q' < bs.length ∧ j = id0 + q'
      · obtain ⟨q', b', rfl, hq', he'⟩ := hU j hj
        rw [he'] at h4
        obtain ⟨u', hu', huq', huk'⟩ := hrv q' b' k hq' h4
        exact Apart.ne hap q q' u u' k (fun e => hij (by rw [e])) huq huq' huk huk'
      · rw [hN j hj, blkOf.same hg (hf.σ j) (hf.p j)] at h4
        have := (blk_lt h h4).1
        have := hrow u hu k huk
        omega
  refine key (fun u hu k hk => ?_)
  -- a row of the results is told as one of the call's own
  exact rows_ge hn u hu k hk
end Go.Proofs.YtaknikdbnfmlfaaDoor.Ex
/- An executor of translated code on abstract states: sets of numbers (maps from numbers to true). -/
namespace Go.Proofs.YtaknikdbnfmlfaaDoor.Ex
open Go Go.RowKit
set_option linter.unusedVariables false
set_option linter.unusedSimpArgs false
def hasN (n : Int) : List Int → Bool
  | [] => false
  | x :: r => bif decide (n = x) then true else hasN n r
theorem hasN_iff {n : Int} : ∀ {l : List Int}, hasN n l = true ↔ n ∈ l
  | [] => by simp [hasN]
  | x :: r => by
    unfold hasN
    rw [List.mem_cons, ← hasN_iff (l := r)]
    by_cases h : n = x <;> simp [h]
/-- A set with a number more. -/
def putN (n : Int) (l : List Int) : List Int := bif hasN n l then l else l ++ [n]
def setTy (P : Program) (t : TypeId) : Bool := match P.underlying t with
  | some (.map kt et) => (match P.underlying kt with
    | some (.int k) => decide (k = .i64)
    | _ => false) && (match P.underlying et with
    | some .bool => (match zeroB P et with
      | some (.bool b) => !b
      | _ => false)
    | _ => false)
  | _ => false
theorem setTy_ok {P : Program} {t : TypeId} (h : setTy P t = true) : ∃ kt et, P.underlying t = some (.map kt et) ∧ P.underlying kt = some (.int .i64) ∧ zeroB P et = some (.bool false) := by
  unfold setTy at h
  split at h
  · rename_i kt et ht
    rw [Bool.and_eq_true] at h
    obtain ⟨h1, h2⟩ := h
    split at h1
    · rename_i k hk
      have := of_decide_eq_true h1
      subst this
      split at h2
      · split at h2
        · rename_i b hz
          cases b with
          | false => exact ⟨kt, et, ht, hk, hz⟩
          | true => cases h2
        · cases h2
      · cases h2
    · cases h1
  · cases h
abbrev entK (e : MapEntry) : Value × Value := (e.key, e.val)
abbrev setKV (n : Int) : Value × Value := (Value.int .i64 n, Value.bool true)
section
variable {P : Program} {w : World} {es : Array MapEntry} {l : List Int} {n : Int} {t kt et : TypeId} {b clock : Nat}
theorem set_keys (h : es.toList.map entK = l.map setKV) : ∀ x ∈ es.toList, MapKept.IsKey (.int .i64) x.key := fun x hx => by
  have : entK x ∈ l.map setKV := by rw [← h]; exact List.mem_map_of_mem hx
  obtain ⟨n, _, hn⟩ := List.mem_map.1 this
  have := congrArg Prod.fst hn
  simp only [entK, setKV] at this
  rw [← this]
  rfl
theorem set_find (h : es.toList.map entK = l.map setKV) (n : Int) : (hasN n l = false ∧ Instr.findNow (.int .i64) (.int .i64 n) es.toList 0 = some none) ∨ (hasN n l = true ∧ ∃ j e0, Instr.findNow (.int .i64) (.int .i64 n) es.toList 0 = some (some (j, .bool true)) ∧ es[j]? = some e0 ∧ e0.key = .int .i64 n ∧ e0.val = .bool true) := by
  have hkey : MapKept.IsKey (.int .i64) (.int .i64 n) := rfl
  rcases MapKept.findNow_spec hkey es.toList 0 (set_keys h) with ⟨h1, h2⟩ | ⟨j, e0, h1, h2, h3⟩
  · refine .inl ⟨?_, h1⟩
    cases hb : hasN n l with
    | false => rfl
    | true =>
      have : setKV n ∈ es.toList.map entK := by rw [h]; exact List.mem_map_of_mem (hasN_iff.1 hb)
      obtain ⟨x, hx, hn⟩ := List.mem_map.1 this
      exact absurd (congrArg Prod.fst hn) (h2 x hx)
  · have hm : entK e0 ∈ l.map setKV := by rw [← h]; exact List.mem_map_of_mem (List.mem_of_getElem? h2)
    obtain ⟨q, hq, he⟩ := List.mem_map.1 hm
    have hv : e0.val = .bool true := (congrArg Prod.snd he).symm
    have hk : Value.int .i64 q = e0.key := congrArg Prod.fst he
    rw [h3] at hk
    cases hk
    refine .inr ⟨hasN_iff.2 hq, j, e0, ?_, by simpa using h2, h3, hv⟩
    rw [← hv]
    simpa using h1
theorem run_set_lookup (ht : P.underlying t = some (.map kt et)) (hk : P.underlying kt = some (.int .i64)) (hz : ∀ w, (zeroValue et).run P w = .ok (.bool false) w) (hb : w.heap[b]? = some (.map es clock)) (h : es.toList.map entK = l.map setKV) (n : Int) (c : Bool) :
    (Instr.lookup t (.map (some b)) (.int .i64 n) c).run P w = .ok (if c then .tuple #[.bool (hasN n l), .bool (hasN n l)] else .bool (hasN n l)) w := by
  have hkey : MapKept.IsKey (.int .i64) (.int .i64 n) := rfl
  rcases set_find h n with ⟨h1, h2⟩ | ⟨h1, j, e0, h2, h3, h4, h5⟩
  · cases c <;> simp [Instr.lookup, run_underlying ht, MapKept.run_getObj_map hb, MapKept.run_checkKey hk hkey, MapKept.run_findKey hk h2, Result.andThen, hz, h1]
  · cases c <;> simp [Instr.lookup, run_underlying ht, MapKept.run_getObj_map hb, MapKept.run_checkKey hk hkey, MapKept.run_findKey hk h2, Result.andThen, hz, h1]
theorem run_set_update (ht : P.underlying t = some (.map kt et)) (hk : P.underlying kt = some (.int .i64)) (hb : w.heap[b]? = some (.map es clock)) (h : es.toList.map entK = l.map setKV) (n : Int) :
    ∃ es' clock', (Instr.mapUpdate t (.map (some b)) (.int .i64 n) (.bool true)).run P w = .ok () { w with heap := w.heap.setIfInBounds b (.map es' clock') } ∧ es'.toList.map entK = (putN n l).map setKV := by
  have hkey : MapKept.IsKey (.int .i64) (.int .i64 n) := rfl
  rcases set_find h n with ⟨h1, h2⟩ | ⟨h1, j, e0, h2, h3, h4, h5⟩
  · refine ⟨es.push ⟨.int .i64 n, .bool true, clock⟩, clock + 1, ?_, ?_⟩
    · simp [Instr.mapUpdate, run_underlying ht, MapKept.run_getObj_map hb, MapKept.run_checkKey hk hkey, MapKept.run_findKey hk h2, MapKept.run_setObj_map _ hb, Result.andThen]
    · unfold putN
      rw [h1]
      simp [h]
  · refine ⟨es.modify j (fun e' => { e' with key := .int .i64 n, val := .bool true }), clock, ?_, ?_⟩
    · simp [Instr.mapUpdate, run_underlying ht, MapKept.run_getObj_map hb, MapKept.run_checkKey hk hkey, MapKept.run_findKey hk h2, h3, h4, MapKept.run_keyThatStays hkey, MapKept.run_setObj_map _ hb, Result.andThen]
    · unfold putN
      rw [h1]
      simp only [cond_true]
      rw [← h]
      apply List.ext_getElem?
      intro q
      simp only [List.getElem?_map, Array.getElem?_toList, Array.getElem?_modify]
      split
      · rename_i e
        subst e
        rw [h3]
        simp [entK, h4, h5]
      · rfl
end
section
variable {P : Program} {w0 : Org} {w : World} {N : Nat} {S : AS} {o : Oper} {ρ : Type} {r : ρ} {id0 : Nat}
theorem Heap.newset {w0 : Org} {w : World} {m : Nm} {s : AS} {id0 : Nat} (h : Heap w0 m s.σ w) (hf : Fresh id0 s) :
    ∃ m', Grows (old id0) m m' w (w.alloc (.map #[] 0)) ∧ Heap w0 m' (updσ s.σ [(id0, .mset [])]) (w.alloc (.map #[] 0)) ∧ m'.b id0 = w.heap.size := by
  let m' : Nm := ⟨m.v, setAt m.b id0 w.heap.size, m.F⟩
  have hg : Grows (old id0) m m' w (w.alloc (.map #[] 0)) := ⟨fun _ _ => rfl, fun i hi => setAt_ne (old_ne (k := 0) (by decide) hi), fun b hb => ⟨hb, Below.heap_alloc w _ b (h.flt b hb)⟩⟩
  refine ⟨m', hg, ?_, setAt_self _ _ _⟩
  have hb0 : w0.heap.size ≤ w.heap.size := h.below.size
  refine Heap.step (fun i => i = id0) h hg hf.σ (fun i hi => ⟨by rw [updσ_one, if_neg hi], hf.p i⟩) (fun i k hi hk => ⟨Below.heap_alloc w _ k (blk_lt h hk).1, (blk_lt h hk).2.1⟩) (fun i hi' => ?_) (fun i j k hij hi' h1 h2 => ?_) (fun k hk => Nat.lt_of_lt_of_le (h.flt k hk) (by simp)) (h.below.alloc hb0 _)
  · subst hi'
    rw [updσ_one, if_pos rfl]
    refine ⟨by show w0.heap.size ≤ setAt m.b i w.heap.size i; rw [setAt_self]; exact hb0, by show ¬ m.F (setAt m.b i w.heap.size i); rw [setAt_self]; exact fun hh => absurd (h.flt _ hh) (by omega), #[], 0, ?_, rfl⟩
    show (w.alloc _).heap[setAt m.b i w.heap.size i]? = _
    rw [setAt_self]
    exact Array.getElem?_push_size
  · subst hi'
    rw [updσ_one, if_pos rfl] at h1
    have h1' : w.heap.size = k := by
      have : setAt m.b i w.heap.size i = k := Eq.symm h1
      rwa [setAt_self] at this
    rw [updσ_one, if_neg (Ne.symm hij)] at h2
    have h3 : blkOf m' j (s.σ j) = blkOf m j (s.σ j) := blkOf.same hg (hf.σ j) (hf.p j)
    rw [h3] at h2
    have := (blk_lt h h2).1
    omega
def opMakeMap (P : Program) (id0 : Nat) (t : TypeId) (κ : Eff → Option ρ) : Option ρ := bif setTy P t then κ ⟨.mp id0, [(id0, .mset [])]⟩ else none
theorem makeMap_ok {t : TypeId} {κ : Eff → Option ρ} (ho : o.op = .makeMap t none) (h : opMakeMap P id0 t κ = some r) : Sound P w0 N S id0 o κ r := by
  rcases cond_some h with ⟨hi, hh⟩ | ⟨_, h2⟩
  · refine ⟨_, hh, ?_⟩
    intro S' m a w hl hf hr K Q hK
    obtain ⟨m', hg, hH, hb⟩ := Heap.newset hr.heap hf
    have hrun : (execOp a.eval o).run P w = .ok (.value (.map (some w.heap.size))) (w.alloc (.map #[] 0)) := by
      unfold execOp
      simp only [ho]
      rfl
    unfold Oper.wp
    rw [hrun, Oper.upon_value]
    refine hK m' _ _ hg hH ?_
    rw [← hb]
    exact .mp
  · cases h2
def opLookup (P : Program) (S : AS) (t : TypeId) (x k : PV) (c : Bool) (κ : PV → Option ρ) : Option ρ := match x, k with
  | .mp i, .v (.int kd n) => match S.σ i with
    | .mset l => bif setTy P t && decide (kd = .i64) then κ (bif c then .tup [.v (.bool (hasN n l)), .v (.bool (hasN n l))] else .v (.bool (hasN n l))) else none
    | _ => none
  | _, _ => none
theorem lookup_ok {t : TypeId} {x k : Operand} {c : Bool} {κ : PV → Option ρ} (ho : o.op = .lookup t x k c) (h : opLookup P S t (S.ev x) (S.ev k) c κ = some r) : SoundV P w0 N S o κ r := by
  unfold opLookup at h
  split at h
  · rename_i i kd n hx hk
    split at h
    · rename_i l hσ
      rcases cond_some h with ⟨hc, hh⟩ | ⟨_, h2⟩
      · rw [Bool.and_eq_true] at hc
        have hkd := of_decide_eq_true hc.2
        subst hkd
        obtain ⟨kt, et, ht, hkt, he⟩ := setTy_ok hc.1
        refine ⟨_, hh, fun m a w hr => ?_⟩
        have h1 := hr.ev x
        have h2 := hr.ev k
        rw [hx] at h1
        rw [hk] at h2
        generalize hz : a.eval x = z at h1
        generalize hz2 : a.eval k = z2 at h2
        cases h1
        cases h2
        have hb := hr.heap.blk i
        rw [hσ] at hb
        obtain ⟨b1, b2, es, cl, b3, b4⟩ := hb
        have hrun := run_set_lookup ht hkt (zeroB_ok he) b3 b4 n c
        refine ⟨if c then .tuple #[.bool (hasN n l), .bool (hasN n l)] else .bool (hasN n l), ?_, ?_⟩
        · unfold execOp
          simp only [ho, hz, hz2]
          simp [Sem.run_bind, hrun]
        · cases c
          · exact .v
          · exact .tup (.cons .v (.cons .v .nil))
      · cases h2
    · cases h
  · cases h
def opMapUpdate (P : Program) (S : AS) (t : TypeId) (x k y : PV) (κ : Eff → Option ρ) : Option ρ := match x, k, y with
  | .mp i, .v (.int kd n), .v (.bool true) => match S.σ i with
    | .mset l => bif setTy P t && decide (kd = .i64) then κ ⟨.v undef, [(i, .mset (putN n l))]⟩ else none
    | _ => none
  | _, _, _ => none
theorem mapUpdate_ok {t : TypeId} {x k y : Operand} {κ : Eff → Option ρ} (ho : o.op = .mapUpdate t x k y) (h : opMapUpdate P S t (S.ev x) (S.ev k) (S.ev y) κ = some r) : Sound P w0 N S id0 o κ r := by
  unfold opMapUpdate at h
  split at h
  · rename_i i kd n hx hk hy
    split at h
    · rename_i l hσ
      rcases cond_some h with ⟨hc, hh⟩ | ⟨_, h2⟩
      · rw [Bool.and_eq_true] at hc
        have hkd := of_decide_eq_true hc.2
        subst hkd
        obtain ⟨kt, et, ht, hkt, he⟩ := setTy_ok hc.1
        refine ⟨_, hh, ?_⟩
        intro S' m a w hl hf hr K Q hK
        have hr0 := hr.le hl
        have h1 := hr0.ev x
        have h2 := hr0.ev k
        have h3 := hr0.ev y
        rw [hx] at h1
        rw [hk] at h2
        rw [hy] at h3
        generalize hz : a.eval x = z at h1
        generalize hz2 : a.eval k = z2 at h2
        generalize hz3 : a.eval y = z3 at h3
        cases h1
        cases h2
        cases h3
        have hσ' : S'.σ i = .mset l := Le.blk hl hσ (by simp)
        have hb := hr.heap.blk i
        rw [hσ'] at hb
        obtain ⟨b1, b2, es, cl, b3, b4⟩ := hb
        obtain ⟨es', cl', hrun, hes⟩ := run_set_update ht hkt b3 b4 n
        obtain ⟨hs1, hs2⟩ := MapKept.heap_set (w := w) (o' := .map es' cl') b3
        have hrun' : (execOp a.eval o).run P w = .ok .skip { w with heap := w.heap.setIfInBounds (m.b i) (.map es' cl') } := by
          unfold execOp
          simp only [ho, hz, hz2, hz3]
          simp [Sem.run_bind, hrun]
        unfold Oper.wp
        rw [hrun', Oper.upon_skip]
        have hFb : ∀ k, m.F k → k ≠ m.b i := fun k hk e => b2 (e ▸ hk)
        have hg : Grows (old id0) m m w { w with heap := w.heap.setIfInBounds (m.b i) (.map es' cl') } := ⟨fun _ _ => rfl, fun _ _ => rfl, fun k hk => ⟨hk, hs2 k (hFb k hk)⟩⟩
        have hblk : blkOf m i (S'.σ i) (m.b i) := by rw [hσ']; rfl
        refine hK m _ _ hg ?_ .v
        refine Heap.step (fun j => j = i) hr.heap hg hf.σ (fun j hj => ⟨by rw [updσ_one, if_neg hj], hf.p j⟩) (fun j k hj hk => ⟨hs2 k (fun e => hr.heap.apart j i k hj hk (by rw [e]; exact hblk)), (blk_lt hr.heap hk).2.1⟩) (fun j hj => ?_) (fun j q k hjq hj h1 h2 => ?_) (fun k hk => by simpa using hr.heap.flt k hk) ?_
        · subst hj
          rw [updσ_one, if_pos rfl]
          exact ⟨b1, b2, es', cl', hs1, hes⟩
        · subst hj
          rw [updσ_one, if_pos rfl] at h1
          rw [updσ_one, if_neg (Ne.symm hjq)] at h2
          exact hr.heap.apart j q k hjq (by rw [hσ']; exact h1) h2
        · have hbl := hr.heap.below
          exact ⟨hbl.os, hbl.tape, hbl.output, by simpa using hbl.size, fun k hk => (hs2 k (by omega)).trans (hbl.block k hk)⟩
      · cases h2
    · cases h
  · cases h
end
end Go.Proofs.YtaknikdbnfmlfaaDoor.Ex
/- An executor of translated code on abstract states: calls that take a row of the caller's own over. -/
namespace Go.Proofs.YtaknikdbnfmlfaaDoor.Ex
open Go Go.RowKit
set_option linter.unusedVariables false
set_option linter.unusedSimpArgs false
/-- A call takes the row l over and hands a row back: in its place, or as its result. -/
def MutOk (P : Program) (f : FuncId) (T : TypeId) (s : List SK) (A : List PK) (inPlace : Bool) (F : List (Tup s) → PT A → Option (List (Tup s))) : Prop :=
  ∀ (l : List (Tup s)) (x : PT A) (r : List (Tup s)) (w : World) (v : Value) (vals : List Value) (base : Nat) (Fz Rd : Nat → Prop) (xs : List Value), F l x = some r → w.ownsRow base T s.length v l.length xs → base ≤ w.heap.size → RowsIs Fz w s l xs →
    (∀ k, Fz k → k < w.heap.size) → (∀ k, Rd k → k < w.heap.size) → (∀ k, v.ownBlock = some k → ¬ Fz k ∧ ¬ Rd k) → PTIs Rd w A x vals → GK (cutW w base) →
    Calls P f (v :: vals).toArray w fun e w' => ∃ v' xs', e = .returned (if inPlace then .tuple #[] else v') ∧ (inPlace = true → v' = v) ∧ w'.ownsRow base T s.length v' r.length xs' ∧ RowsIs Fz w' s r xs' ∧
      (∀ k, v'.ownBlock = some k → v.ownBlock = some k ∨ w.heap.size ≤ k) ∧ (w'.os = w.os ∧ w'.tape = w.tape ∧ w'.output = w.output) ∧ base ≤ w'.heap.size ∧ ∀ k, k < w.heap.size → v.ownBlock ≠ some k → w'.heap[k]? = w.heap[k]?
structure EntM (P : Program) where
  f : FuncId
  T : TypeId
  s : List SK
  A : List PK
  inPlace : Bool
  F : List (Tup s) → PT A → Option (List (Tup s))
  ok : MutOk P f T s A inPlace F
  enters : ∀ (args : Array Value) (w : World), (callFunc f args).run P w = .ok (.enter f args) w
section
variable {P : Program} {w0 : Org} {w : World} {N : Nat} {S : AS} {o : Oper} {ρ : Type} {r : ρ} {id0 : Nat}
def dropB (S : AS) (i : Nat) : AS := ⟨S.fr, fun j => bif Nat.beq j i then .no else S.σ j⟩
def mutE (id0 i : Nat) (fr inPlace : Bool) (T : TypeId) (s : List SK) (l : List (Tup s)) : Eff := bif inPlace then ⟨.un, [(i, .own fr T s l)]⟩ else ⟨.own id0, [(i, .no), (id0, .own fr T s l)]⟩
def callMut (S : AS) (id0 : Nat) (g : FuncId) (args : List PV) (κ : Eff → Option ρ) : List (EntM P) → Option ρ
  | [] => none
  | e :: q => bif Nat.beq e.f g then (match args with
    | .own i :: rest => match S.σ i with
      | .own fr T s l => bif Nat.beq T e.T then (match asRows s e.s l with
        | some l' => match unPs (dropB S i) e.A rest with
          | some x => (e.F l' x).bind fun y => κ (mutE id0 i fr e.inPlace e.T e.s y)
          | none => callMut S id0 g args κ q
        | none => callMut S id0 g args κ q) else callMut S id0 g args κ q
      | _ => callMut S id0 g args κ q
    | _ => callMut S id0 g args κ q) else callMut S id0 g args κ q
theorem dropB_le (i : Nat) : Le (dropB S i) S := ⟨fun t => .inr rfl, fun j => by
  show (bif Nat.beq j i then ABlk.no else S.σ j) = .no ∨ _ = (bif Nat.beq j i then ABlk.no else S.σ j)
  cases Nat.beq j i <;> simp⟩
theorem callMut_ok {f : Operand} {args : Array Operand} {ts : Array TypeId} {κ : Eff → Option ρ} {g : FuncId} {caps : List PV} (ho : o.op = .call { callee := .value f, args := args, argTypes := ts }) (hfv : S.ev f = .fn g caps) :
    ∀ {Φ : List (EntM P)}, callMut S id0 g (args.toList.map S.ev ++ caps) κ Φ = some r → Sound P w0 N S id0 o κ r
  | [], h => by cases h
  | e :: Φ, h => by
    rcases cond_some h with ⟨hef, hh⟩ | ⟨_, hh⟩
    · clear h
      have hef := Nat.eq_of_beq_eq_true hef
      split at hh
      · rename_i i rest hargs
        split at hh
        · rename_i fr T s l hσ
          rcases cond_some hh with ⟨hT, hk⟩ | ⟨_, hh⟩
          · clear hh
            have hT := Nat.eq_of_beq_eq_true hT
            subst hT
            split at hk
            · rename_i l' hl
              split at hk
              · rename_i x hx
                obtain ⟨y, hy, hk⟩ := Option.bind_eq_some_iff.1 hk
                obtain ⟨hse, hle⟩ := asRows_some hl
                refine ⟨_, hk, ?_⟩
                intro S' m a w hl' hf hr K Q hK
                have hr0 := hr.le hl'
                have h1 := hr0.ev f
                rw [hfv] at h1
                generalize hz : a.eval f = z at h1
                cases h1 with | fn h1 =>
                rename_i cv
                have hall := (evs_ok hr0 args.toList).append h1
                rw [hargs] at hall
                generalize hav : args.toList.map a.eval ++ cv = av at hall
                cases hall with | cons hv hrest =>
                rename_i v vs
                have hσ' : S'.σ i = .own fr e.T s l := Le.blk hl' hσ (by simp)
                have hb := hr.heap.blk i
                rw [hσ'] at hb
                obtain ⟨xs, b1, b2, b3⟩ := hb
                have hmv : m.v i = v := by cases hv with | own hv => exact hv
                rw [hmv] at b1 b3
                have hrd := hr0.le (dropB_le i)
                have hps := unPs_ok hrd hx hrest
                have hlt : w0.heap.size ≤ w.heap.size := hr.heap.below.size
                have hblk : ∀ k, v.ownBlock = some k → blkOf m i (S'.σ i) k := fun k hk => by rw [hσ']; show (m.v i).ownBlock = some k; rw [hmv]; exact hk
                have hnrd : ∀ k, v.ownBlock = some k → ¬ rd m (dropB S i) k := fun k hk h => by
                  rcases h with h | ⟨j, h⟩
                  · exact b3 k hk h
                  · have hji : Nat.beq j i = false := by
                      cases hq : Nat.beq j i with
                      | false => rfl
                      | true =>
                        have h' : blkOf m j (bif Nat.beq j i then .no else S.σ j) k := h
                        rw [hq] at h'; cases h'
                    have h' : blkOf m j (bif Nat.beq j i then .no else S.σ j) k := h
                    rw [hji] at h'
                    have hji' := Nat.ne_of_beq_eq_false hji
                    have h2 : blkOf m j (S'.σ j) k := by
                      rcases hl'.σ j with h3 | h3
                      · rw [h3] at h'; cases h'
                      · rw [h3]; exact h'
                    exact hr.heap.apart j i k hji' h2 (hblk k hk)
                subst hse
                have hle' : l' = l := hle
                subst hle'
                have hcall := e.ok l' x y w v vs w0.heap.size (okOf m w0.heap.size fr) (rd m (dropB S i)) xs hy b1 hlt b2 (fun k hk => hr.heap.flt k hk.1) (fun k hk => rd_lt hrd hk) (fun k hk => ⟨fun h => b3 k hk h.1, hnrd k hk⟩) hps hr.gkc
                have hrun : (execOp a.eval o).run P w = .ok (.enter g (args.toList.map a.eval ++ cv).toArray) w := by
                  have he := e.enters ((args.toList.map a.eval) ++ cv).toArray w
                  rw [hef] at he
                  have hm : args.map a.eval ++ cv.toArray = (args.toList.map a.eval ++ cv).toArray := by
                    apply Array.ext'
                    simp
                  unfold execOp
                  simp [ho, resolve, Deferred.ofValue, invoke, hz]
                  rw [hm]
                  simpa using he
                unfold Oper.wp
                rw [hrun, Oper.upon_enter, hav]
                rw [hef] at hcall
                refine hcall.mono fun en w' hh => ?_
                obtain ⟨v', xs', rfl, hip, c1, c2, c3, ⟨d1, d2, d3⟩, d4, d5⟩ := hh
                have hFst : ∀ k, m.F k → w'.heap[k]? = w.heap[k]? := fun k hk => d5 k (hr.heap.flt k hk) (fun h => b3 k h hk)
                have hFlt : ∀ k, m.F k → k < w'.heap.size := fun k hk => by
                  have h1 := hFst k hk
                  rw [Array.getElem?_eq_getElem (hr.heap.flt k hk)] at h1
                  exact (Array.getElem?_eq_some_iff.1 h1).1
                have hbel : Below w0.heap.size w0.toWorld w' := ⟨d1.trans hr.heap.below.os, d2.trans hr.heap.below.tape, d3.trans hr.heap.below.output, d4, fun k hk => (d5 k (by omega) (fun h => by have := (b1.lt k h).1; omega)).trans (hr.heap.below.block k hk)⟩
                have hst : ∀ j k, j ≠ i → blkOf m j (S'.σ j) k → w'.heap[k]? = w.heap[k]? := fun j k hj hk => d5 k (blk_lt hr.heap hk).1 (fun h => hr.heap.apart j i k hj hk (hblk k h))
                have hnF : ∀ k, v'.ownBlock = some k → ¬ m.F k := fun k hk hF => by
                  rcases c3 k hk with h | h
                  · exact b3 k h hF
                  · have := hr.heap.flt k hF; omega
                have hapart : ∀ j k, j ≠ i → blkOf m j (S'.σ j) k → v'.ownBlock = some k → False := fun j k hj hk hv' => by
                  rcases c3 k hv' with h | h
                  · exact hr.heap.apart j i k hj hk (hblk k h)
                  · have := (blk_lt hr.heap hk).1; omega
                have hid : i ≠ id0 := fun e => by
                  have := hf.no id0 (by have := old_new (id0 := id0) (k := 0) (by decide); simpa using this)
                  rw [← e, hσ'] at this; cases this
                cases hin : e.inPlace with
                | true =>
                  have hv' := hip hin
                  subst hv'
                  have hg : Grows (old id0) m m w w' := ⟨fun _ _ => rfl, fun _ _ => rfl, fun k hk => ⟨hk, hFst k hk⟩⟩
                  refine hK m w' _ hg ?_ (by simp only [mutE, hin]; exact .un)
                  simp only [mutE, hin, cond_true]
                  refine Heap.step (fun j => j = i) hr.heap hg hf.σ (fun j hj => ⟨by rw [updσ_one, if_neg hj], hf.p j⟩) (fun j k hj hk => ⟨hst j k hj hk, (blk_lt hr.heap hk).2.1⟩) (fun j hj => ?_) (fun j q k hjq hj h1 h2 => ?_) hFlt hbel
                  · subst hj
                    rw [updσ_one, if_pos rfl]
                    refine ⟨xs', by rw [hmv]; exact c1, c2, fun k hk => by rw [hmv] at hk; exact hnF k hk⟩
                  · subst hj
                    rw [updσ_one, if_pos rfl] at h1
                    rw [updσ_one, if_neg (Ne.symm hjq)] at h2
                    have h1' : (m.v j).ownBlock = some k := h1
                    rw [hmv] at h1'
                    exact hapart q k (Ne.symm hjq) h2 h1'
                | false =>
                  let m' : Nm := ⟨setAt m.v id0 v', m.b, m.F⟩
                  have hg : Grows (old id0) m m' w w' := ⟨fun j hj => setAt_ne (old_ne (k := 0) (by decide) hj), fun _ _ => rfl, fun k hk => ⟨hk, hFst k hk⟩⟩
                  have hsl : ∃ A n c, v' = .slice A n c := by
                    rcases c1.2 with ⟨h, _⟩ | ⟨_, _, _, h, _⟩ <;> exact ⟨_, _, _, h⟩
                  obtain ⟨vA, vn, vc, hvs⟩ := hsl
                  have hu2 : ∀ j, updσ S'.σ [(i, .no), (id0, .own fr e.T e.s y)] j = if j = id0 then .own fr e.T e.s y else if j = i then .no else S'.σ j := fun j => by
                    show updσ (fun k => bif Nat.beq k i then .no else S'.σ k) [(id0, .own fr e.T e.s y)] j = _
                    rw [updσ_one]
                    by_cases h1 : j = id0
                    · simp [h1]
                    · by_cases h2 : j = i
                      · subst h2; simp [h1]
                      · have hb : Nat.beq j i = false := by
                          cases hq : Nat.beq j i with
                          | true => exact absurd (Nat.eq_of_beq_eq_true hq) h2
                          | false => rfl
                        simp [h1, h2, hb]
                  refine hK m' w' _ hg ?_ ?_
                  · simp only [mutE, hin, cond_false]
                    refine Heap.step (fun j => j = i ∨ j = id0) hr.heap hg hf.σ (fun j hj => ⟨by rw [hu2, if_neg (fun e => hj (.inr e)), if_neg (fun e => hj (.inl e))], hf.p j⟩) (fun j k hj hk => ⟨hst j k (fun e => hj (.inl e)) hk, (blk_lt hr.heap hk).2.1⟩) (fun j hj => ?_) (fun j q k hjq hj h1 h2 => ?_) hFlt hbel
                    · rw [hu2]
                      by_cases h1 : j = id0
                      · rw [if_pos h1]
                        subst h1
                        have hvv : m'.v j = v' := setAt_self _ _ _
                        refine ⟨xs', by rw [hvv]; exact c1, c2, fun k hk => by rw [hvv] at hk; exact hnF k hk⟩
                      · rw [if_neg h1, if_pos (hj.resolve_right h1)]
                        trivial
                    · rw [hu2] at h1 h2
                      by_cases hj0 : j = id0
                      · rw [if_pos hj0] at h1
                        have hvv : m'.v j = v' := by rw [hj0]; exact setAt_self _ _ _
                        have h1' : (m'.v j).ownBlock = some k := h1
                        rw [hvv] at h1'
                        rw [if_neg (fun e => hjq (hj0.trans e.symm))] at h2
                        by_cases hqi : q = i
                        · rw [if_pos hqi] at h2; cases h2
                        · rw [if_neg hqi, blkOf.same hg (hf.σ q) (hf.p q)] at h2
                          exact hapart q k hqi h2 h1'
                      · rw [if_neg hj0, if_pos (hj.resolve_right hj0)] at h1
                        cases h1
                  · simp only [mutE, hin, cond_false]
                    have hvv : m'.v id0 = v' := setAt_self _ _ _
                    show RepV m' _ w' (.own id0) v'
                    rw [hvs]
                    rw [hvs] at hvv
                    exact .own hvv
              · exact callMut_ok ho hfv hk
            · exact callMut_ok ho hfv hk
          · exact callMut_ok ho hfv hh
        · exact callMut_ok ho hfv hh
      · exact callMut_ok ho hfv hh
    · exact callMut_ok ho hfv hh
end
end Go.Proofs.YtaknikdbnfmlfaaDoor.Ex
