/- An executor of translated code on abstract states, fourteenth part: the step of a call. -/
import Derived.Test.YtggikacbelogcaaGreatExM
namespace Go.Proofs.YtggikacbelogcaaGreat.Ex
open Go Go.RowKit
set_option linter.unusedVariables false
set_option linter.unusedSimpArgs false
/-! ### results laid into a state -/
def enL (id : Nat) : (k : LK) → k.ty → PV × List ABlk
  | .sc k, x => (cellK true k x, [])
  | .row T s, l => (.own id, [.own true T s l])
  | .ptr _, _ => (.un, [])
  | .fnc f ss, x => (.fn f (capPs true ss x), [])
def enLs (id : Nat) : (s : List LK) → LT s → List PV × List ABlk
  | [] => fun _ => ([], [])
  | k :: r => match r with
    | [] => fun x => match enL id k x with
      | (p, b) => ([p], b)
    | k' :: r' => fun x => match enL id k x.1 with
      | (p, b) => match enLs (id + b.length) (k' :: r') x.2 with
        | (ps, bs) => (p :: ps, b ++ bs)
def enP (id : Nat) (p : PK) (x : p.ty) : PV × List ABlk := match p, x with
  | .one l, x => enL id l x
  | .agg ls, x => match enLs id ls x with
    | (ps, bs) => (.agg ps, bs)
def enPs (id : Nat) : (s : List PK) → PT s → List PV × List ABlk
  | [] => fun _ => ([], [])
  | k :: r => match r with
    | [] => fun x => match enP id k x with
      | (p, b) => ([p], b)
    | k' :: r' => fun x => match enP id k x.1 with
      | (p, b) => match enPs (id + b.length) (k' :: r') x.2 with
        | (ps, bs) => (p :: ps, b ++ bs)
def numb (id : Nat) : List ABlk → List (Nat × ABlk)
  | [] => []
  | b :: r => (id, b) :: numb (id + 1) r
def retPV : List PV → PV
  | [p] => p
  | ps => .tup ps
section
variable {m' : Nm} {base B0 : Nat} {Fz : Nat → Prop} {w' : World}
/-- The rows of a result under their names. -/
structure Named (m' : Nm) (B0 : Nat) (w' : World) (id : Nat) (rv : List Value) (bs : List ABlk) : Prop where
  len : rv.length = bs.length
  blk : ∀ i b, bs[i]? = some b → (∃ T s l, b = .own true T s l) ∧ BlkIs m' B0 w' (id + i) b
theorem Named.app {id : Nat} {r1 r2 : List Value} {b1 b2 : List ABlk} (h1 : Named m' B0 w' id r1 b1) (h2 : Named m' B0 w' (id + b1.length) r2 b2) : Named m' B0 w' id (r1 ++ r2) (b1 ++ b2) := by
  refine ⟨by simp [h1.len, h2.len], fun i b hb => ?_⟩
  by_cases hi : i < b1.length
  · rw [List.getElem?_append_left hi] at hb
    exact h1.blk i b hb
  · rw [List.getElem?_append_right (by omega)] at hb
    have := h2.blk _ b hb
    rwa [show id + b1.length + (i - b1.length) = id + i by omega] at this
/-- What is asked of the names: each row's value, and nobody writes what the results lead to. -/
structure Gives (m' : Nm) (B0 : Nat) (Fz : Nat → Prop) (id : Nat) (rv : List Value) : Prop where
  v : ∀ (i : Nat) (u : Value), rv[i]? = some u → m'.v (id + i) = u
  f : ∀ u ∈ rv, ∀ k, u.ownBlock = some k → ¬ m'.F k
  F : ∀ k, Fz k → m'.F k ∧ B0 ≤ k
theorem Gives.left {id : Nat} {r1 r2 : List Value} (h : Gives m' B0 Fz id (r1 ++ r2)) : Gives m' B0 Fz id r1 := ⟨fun i u hu => h.v i u (by rw [List.getElem?_append_left (List.getElem?_eq_some_iff.1 hu).1]; exact hu), fun u hu => h.f u (List.mem_append_left _ hu), h.F⟩
theorem Gives.right {id n : Nat} {r1 r2 : List Value} (h : Gives m' B0 Fz id (r1 ++ r2)) (hn : r1.length = n) : Gives m' B0 Fz (id + n) r2 := ⟨fun i u hu => by
  have := h.v (n + i) u (by rw [List.getElem?_append_right (by omega)]; rw [show n + i - r1.length = i by omega]; exact hu)
  rwa [← Nat.add_assoc] at this, fun u hu => h.f u (List.mem_append_right _ hu), h.F⟩
theorem Gives.stays {id : Nat} {rv : List Value} (h : Gives m' B0 Fz id rv) : Stays Fz (okOf m' B0 true) w' w' := fun k hk => ⟨⟨(h.F k hk).1, fun _ => (h.F k hk).2⟩, rfl⟩
theorem enL_ok (hb : B0 ≤ base) {id : Nat} {k : LK} {x : k.ty} {v : Value} {rv : List Value} (h : LKNew base Fz w' k x v rv) (hg : Gives m' B0 Fz id rv) : RepV m' B0 w' (enL id k x).1 v ∧ Named m' B0 w' id rv (enL id k x).2 := by
  cases k with
  | sc k =>
    obtain ⟨rfl, h⟩ := h
    exact ⟨cellK_ok (SKIs.move hg.stays h), ⟨rfl, fun i b hb => by simp [enL] at hb⟩⟩
  | row T s =>
    obtain ⟨rfl, xs, h1, h2⟩ := h
    have hv : m'.v id = v := hg.v 0 v rfl
    have hsl : ∃ A n c, v = .slice A n c := by
      rcases h1.2 with ⟨e, _⟩ | ⟨g, cap, cur, e, _⟩ <;> exact ⟨_, _, _, e⟩
    obtain ⟨A, n, c, rfl⟩ := hsl
    refine ⟨.own hv, ⟨rfl, fun i b hb' => ?_⟩⟩
    cases i with
    | zero =>
      simp only [enL, List.getElem?_cons_zero, Option.some.injEq] at hb'
      subst hb'
      refine ⟨⟨_, _, _, rfl⟩, xs, ?_, RowsIs.move hg.stays h2, fun k hk => ?_⟩
      · rw [Nat.add_zero, hv]
        refine ⟨h1.1, ?_⟩
        rcases h1.2 with h | ⟨g, cap, cur, e, hg', r⟩
        · exact .inl h
        · exact .inr ⟨g, cap, cur, e, Nat.le_trans hb hg', r⟩
      · rw [Nat.add_zero, hv] at hk
        exact hg.f _ (by simp) k hk
    | succ i => simp [enL] at hb'
  | ptr s => exact h.elim
  | fnc f ss =>
    obtain ⟨rfl, cs, rfl, h⟩ := h
    exact ⟨.fn (capPs_ok (CapsIs.move hg.stays h)).1, ⟨rfl, fun i b hb => by simp [enL] at hb⟩⟩
theorem enLs_ok (hb : B0 ≤ base) : ∀ {s : List LK} {id : Nat} {x : LT s} {vs rv : List Value}, LTNew base Fz w' s x vs rv → Gives m' B0 Fz id rv → RepVs m' B0 w' (enLs id s x).1 vs ∧ Named m' B0 w' id rv (enLs id s x).2
  | [], id, x, vs, rv, h, hg => by
    simp only [LTNew] at h
    obtain ⟨rfl, rfl⟩ := h
    simp only [enLs]
    exact ⟨.nil, ⟨rfl, fun i b hb => by simp at hb⟩⟩
  | [k], id, x, vs, rv, h, hg => by
    simp only [LTNew] at h
    obtain ⟨u, rfl, h⟩ := h
    obtain ⟨h1, h2⟩ := enL_ok hb h hg
    simp only [enLs]
    exact ⟨.cons h1 .nil, h2⟩
  | k :: k' :: r, id, x, vs, rv, h, hg => by
    simp only [LTNew] at h
    obtain ⟨u, us, r1, r2, rfl, rfl, ha, hb'⟩ := h
    obtain ⟨h1, h2⟩ := enL_ok hb ha hg.left
    obtain ⟨h3, h4⟩ := enLs_ok hb (id := id + (enL id k x.1).2.length) hb' (hg.right h2.len)
    simp only [enLs]
    exact ⟨.cons h1 h3, h2.app h4⟩
theorem enP_ok (hb : B0 ≤ base) {id : Nat} {p : PK} {x : p.ty} {v : Value} {rv : List Value} (h : PKNew base Fz w' p x v rv) (hg : Gives m' B0 Fz id rv) : RepV m' B0 w' (enP id p x).1 v ∧ Named m' B0 w' id rv (enP id p x).2 := by
  cases p with
  | one l => exact enL_ok hb h hg
  | agg ls =>
    obtain ⟨vs, rfl, h⟩ := h
    obtain ⟨h1, h2⟩ := enLs_ok hb h hg
    exact ⟨.agg h1, h2⟩
theorem enPs_ok (hb : B0 ≤ base) : ∀ {s : List PK} {id : Nat} {x : PT s} {vs rv : List Value}, PTNew base Fz w' s x vs rv → Gives m' B0 Fz id rv → RepVs m' B0 w' (enPs id s x).1 vs ∧ Named m' B0 w' id rv (enPs id s x).2
  | [], id, x, vs, rv, h, hg => by
    simp only [PTNew] at h
    obtain ⟨rfl, rfl⟩ := h
    simp only [enPs]
    exact ⟨.nil, ⟨rfl, fun i b hb => by simp at hb⟩⟩
  | [k], id, x, vs, rv, h, hg => by
    simp only [PTNew] at h
    obtain ⟨u, rfl, h⟩ := h
    obtain ⟨h1, h2⟩ := enP_ok hb h hg
    simp only [enPs]
    exact ⟨.cons h1 .nil, h2⟩
  | k :: k' :: r, id, x, vs, rv, h, hg => by
    simp only [PTNew] at h
    obtain ⟨u, us, r1, r2, rfl, rfl, ha, hb'⟩ := h
    obtain ⟨h1, h2⟩ := enP_ok hb ha hg.left
    obtain ⟨h3, h4⟩ := enPs_ok hb (id := id + (enP id k x.1).2.length) hb' (hg.right h2.len)
    simp only [enPs]
    exact ⟨.cons h1 h3, h2.app h4⟩
end
theorem retPV_ok {m : Nm} {B0 : Nat} {w : World} {ps : List PV} {vs : List Value} (h : RepVs m B0 w ps vs) : RepV m B0 w (retPV ps) (retV vs) := by
  cases h with
  | nil => exact .tup .nil
  | cons h hs =>
    cases hs with
    | nil => exact h
    | cons h2 hs => exact .tup (.cons h (.cons h2 hs))
theorem updσ_numb (σ : Nat → ABlk) : ∀ (bs : List ABlk) (id j : Nat), updσ σ (numb id bs) j = match (if id ≤ j then bs[j - id]? else none) with
    | some b => b
    | none => σ j
  | [], id, j => by
    simp only [numb, updσ]
    split <;> simp_all
  | b :: bs, id, j => by
    show updσ (fun k => bif Nat.beq k id then b else σ k) (numb (id + 1) bs) j = _
    rw [updσ_numb _ bs (id + 1) j]
    by_cases h1 : id + 1 ≤ j
    · rw [if_pos h1, if_pos (by omega)]
      rw [show j - id = (j - (id + 1)) + 1 by omega, List.getElem?_cons_succ]
      cases bs[j - (id + 1)]? with
      | some c => rfl
      | none =>
        have hb : Nat.beq j id = false := by
          cases hq : Nat.beq j id with
          | true => have := Nat.eq_of_beq_eq_true hq; omega
          | false => rfl
        simp [hb]
    · rw [if_neg h1]
      by_cases h2 : id ≤ j
      · have : j = id := by omega
        subst this
        simp
      · have hb : Nat.beq j id = false := by
          cases hq : Nat.beq j id with
          | true => have := Nat.eq_of_beq_eq_true hq; omega
          | false => rfl
        simp [hb, h2]
theorem Apart.ne : ∀ {rv : List Value}, Apart rv → ∀ (i j : Nat) (u v : Value) (k : Nat), i ≠ j → rv[i]? = some u → rv[j]? = some v → u.ownBlock = some k → v.ownBlock = some k → False
  | [], _, i, j, u, v, k, _, hu, _, _, _ => by simp at hu
  | x :: r, h, i, j, u, v, k, hij, hu, hv, h1, h2 => by
    cases i with
    | zero =>
      cases j with
      | zero => exact hij rfl
      | succ j =>
        simp only [List.getElem?_cons_zero, Option.some.injEq] at hu
        subst hu
        exact h.1 v (List.mem_of_getElem? (by simpa using hv)) k h1 h2
    | succ i =>
      cases j with
      | zero =>
        simp only [List.getElem?_cons_zero, Option.some.injEq] at hv
        subst hv
        exact h.1 u (List.mem_of_getElem? (by simpa using hu)) k h2 h1
      | succ j => exact Apart.ne h.2 i j u v k (by omega) (by simpa using hu) (by simpa using hv) h1 h2
/-- Names for new rows. -/
def nameRows (f : Nat → Value) (id : Nat) (rv : List Value) : Nat → Value := fun j => match (if id ≤ j then rv[j - id]? else none) with
  | some v => v
  | none => f j
theorem nameRows_at {f : Nat → Value} {id i : Nat} {rv : List Value} {u : Value} (h : rv[i]? = some u) : nameRows f id rv (id + i) = u := by
  unfold nameRows
  rw [if_pos (by omega), show id + i - id = i by omega, h]
theorem nameRows_old {f : Nat → Value} {id i : Nat} {rv : List Value} (hl : rv.length ≤ 8) (h : old id i = true) : nameRows f id rv i = f i := by
  unfold nameRows
  split
  · rename_i v hv
    split at hv
    · rename_i h1
      have h2 := (List.getElem?_eq_some_iff.1 hv).1
      have h3 := old_ne (k := i - id) (by omega) h
      omega
    · cases hv
  · rfl
section
variable {base : Nat} {Fz : Nat → Prop} {w' : World}
theorem rowL_ge {k : LK} {x : k.ty} {v : Value} {rv : List Value} (h : LKNew base Fz w' k x v rv) : ∀ u ∈ rv, ∀ q, u.ownBlock = some q → base ≤ q := by
  cases k with
  | sc k => obtain ⟨rfl, _⟩ := h; intro u hu; cases hu
  | fnc f ss => obtain ⟨rfl, _⟩ := h; intro u hu; cases hu
  | row T s =>
    obtain ⟨rfl, xs, h1, h2⟩ := h
    intro u hu q hq
    simp at hu
    subst hu
    exact (h1.lt q hq).1
  | ptr s => exact h.elim
theorem rowLs_ge : ∀ {s : List LK} {x : LT s} {vs rv : List Value}, LTNew base Fz w' s x vs rv → ∀ u ∈ rv, ∀ q, u.ownBlock = some q → base ≤ q
  | [], x, vs, rv, h => by simp only [LTNew] at h; obtain ⟨rfl, rfl⟩ := h; intro u hu; cases hu
  | [k], x, vs, rv, h => by simp only [LTNew] at h; obtain ⟨u, rfl, h⟩ := h; exact rowL_ge h
  | k :: k' :: r, x, vs, rv, h => by
    simp only [LTNew] at h
    obtain ⟨u, us, r1, r2, rfl, rfl, ha, hb⟩ := h
    intro u hu
    rcases List.mem_append.1 hu with hu | hu
    · exact rowL_ge ha u hu
    · exact rowLs_ge hb u hu
theorem rowP_ge {p : PK} {x : p.ty} {v : Value} {rv : List Value} (h : PKNew base Fz w' p x v rv) : ∀ u ∈ rv, ∀ q, u.ownBlock = some q → base ≤ q := by
  cases p with
  | one l => exact rowL_ge h
  | agg ls => obtain ⟨vs, rfl, h⟩ := h; exact rowLs_ge h
theorem rows_ge : ∀ {s : List PK} {x : PT s} {vs rv : List Value}, PTNew base Fz w' s x vs rv → ∀ u ∈ rv, ∀ q, u.ownBlock = some q → base ≤ q
  | [], x, vs, rv, h => by simp only [PTNew] at h; obtain ⟨rfl, rfl⟩ := h; intro u hu; cases hu
  | [k], x, vs, rv, h => by simp only [PTNew] at h; obtain ⟨u, rfl, h⟩ := h; exact rowP_ge h
  | k :: k' :: r, x, vs, rv, h => by
    simp only [PTNew] at h
    obtain ⟨u, us, r1, r2, rfl, rfl, ha, hb⟩ := h
    intro u hu
    rcases List.mem_append.1 hu with hu | hu
    · exact rowP_ge ha u hu
    · exact rows_ge hb u hu
end
/-- The step from a world to one behind a call: what was there stands, and its results are named. -/
theorem Heap.call {w0 : Org} {w w' : World} {m : Nm} {S : AS} {id0 : Nat} {R : List PK} {x : PT R} {v : Value} (h : Heap w0 m S.σ w) (hf : Fresh id0 S) (hr : Rets R w w' x v) (hb : Below w.heap.size w w') (h8 : (enPs id0 R x).2.length ≤ 8) :
    ∃ m', Grows (old id0) m m' w w' ∧ Heap w0 m' (updσ S.σ (numb id0 (enPs id0 R x).2)) w' ∧ RepV m' w0.heap.size w' (retPV (enPs id0 R x).1) v := by
  obtain ⟨vs, rv, Fz, rfl, hn, hap, hnF, hFz⟩ := hr.ex
  let m' : Nm := ⟨nameRows m.v id0 rv, m.b, fun k => m.F k ∨ Fz k⟩
  have hb0 : w0.heap.size ≤ w.heap.size := h.below.size
  have hge : ∀ u ∈ rv, ∀ k, u.ownBlock = some k → ¬ m.F k → ¬ m'.F k := fun u hu k hk h1 h2 => h2.elim h1 (hnF u hu k hk)
  -- the rows' blocks lie behind w
  have key : ∀ (hrow : ∀ u ∈ rv, ∀ k, u.ownBlock = some k → w.heap.size ≤ k), ∃ m', Grows (old id0) m m' w w' ∧ Heap w0 m' (updσ S.σ (numb id0 (enPs id0 R x).2)) w' ∧ RepV m' w0.heap.size w' (retPV (enPs id0 R x).1) (retV vs) := by
    intro hrow
    have hG : Gives m' w0.heap.size Fz id0 rv := ⟨fun i u hu => nameRows_at hu, fun u hu k hk => hge u hu k hk (fun hF => by have := h.flt k hF; have := hrow u hu k hk; omega), fun k hk => ⟨.inr hk, Nat.le_trans hb0 (hFz k hk).1⟩⟩
    obtain ⟨h1, h2⟩ := enPs_ok hb0 hn hG
    have hl8 : rv.length ≤ 8 := by rw [h2.len]; exact h8
    have hg : Grows (old id0) m m' w w' := ⟨fun i hi => nameRows_old hl8 hi, fun _ _ => rfl, fun k hk => ⟨.inl hk, hb.block k (h.flt k hk)⟩⟩
    refine ⟨m', hg, ?_, retPV_ok h1⟩
    generalize hbs : (enPs id0 R x).2 = bs at h2 h8 ⊢
    have hU : ∀ i, (∃ j, j < bs.length ∧ i = id0 + j) → ∃ j b, i = id0 + j ∧ bs[j]? = some b ∧ updσ S.σ (numb id0 bs) i = b := fun i ⟨j, hj, hi⟩ => by
      refine ⟨j, bs[j], hi, List.getElem?_eq_getElem hj, ?_⟩
      rw [updσ_numb, hi, if_pos (by omega), show id0 + j - id0 = j by omega, List.getElem?_eq_getElem hj]
    have hN : ∀ i, ¬ (∃ j, j < bs.length ∧ i = id0 + j) → updσ S.σ (numb id0 bs) i = S.σ i := fun i hi => by
      rw [updσ_numb]
      split
      · rename_i b hb'
        split at hb'
        · exact absurd ⟨i - id0, (List.getElem?_eq_some_iff.1 hb').1, by omega⟩ hi
        · cases hb'
      · rfl
    have hrv : ∀ j b k, bs[j]? = some b → blkOf m' (id0 + j) b = some k → ∃ u ∈ rv, rv[j]? = some u ∧ u.ownBlock = some k := fun j b k hj hk => by
      obtain ⟨⟨T, s, l, rfl⟩, _⟩ := h2.blk j b hj
      have hjl : j < rv.length := by rw [h2.len]; exact (List.getElem?_eq_some_iff.1 hj).1
      refine ⟨rv[j], List.getElem_mem hjl, List.getElem?_eq_getElem hjl, ?_⟩
      have : (nameRows m.v id0 rv (id0 + j)).ownBlock = some k := hk
      rwa [nameRows_at (List.getElem?_eq_getElem hjl)] at this
    refine Heap.step (fun i => ∃ j, j < bs.length ∧ i = id0 + j) h hg hf.σ (fun i hi => ⟨hN i hi, hf.p i⟩) (fun i k hi hk => ⟨hb.block k (blk_lt h hk).1, fun hF => hF.elim (blk_lt h hk).2.1 (fun hz => by have := (hFz k hz).1; have := (blk_lt h hk).1; omega)⟩) (fun i hi => ?_) (fun i j k hij hi h3 h4 => ?_) (fun k hk => hk.elim (fun h5 => Nat.lt_of_lt_of_le (h.flt k h5) hb.size) (fun hz => (hFz k hz).2)) (h.below.trans (hb.mono hb0))
    · obtain ⟨j, b, rfl, hj, he⟩ := hU i hi
      rw [he]
      exact (h2.blk j b hj).2
    · obtain ⟨q, b, rfl, hq, he⟩ := hU i hi
      rw [he] at h3
      obtain ⟨u, hu, huq, huk⟩ := hrv q b k hq h3
      by_cases hj : ∃ q', q' < bs.length ∧ j = id0 + q'
      · obtain ⟨q', b', rfl, hq', he'⟩ := hU j hj
        rw [he'] at h4
        obtain ⟨u', hu', huq', huk'⟩ := hrv q' b' k hq' h4
        exact Apart.ne hap q q' u u' k (fun e => hij (by rw [e])) huq huq' huk huk'
      · rw [hN j hj, blkOf.same hg (hf.p j)] at h4
        have := (blk_lt h h4).1
        have := hrow u hu k huk
        omega
  refine key (fun u hu k hk => ?_)
  -- a row of the results is told as one of the call's own
  exact rows_ge hn u hu k hk
end Go.Proofs.YtggikacbelogcaaGreat.Ex
