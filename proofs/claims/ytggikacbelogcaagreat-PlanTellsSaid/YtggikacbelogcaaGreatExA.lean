/- An executor of translated code on abstract states, first part: kinds, abstract values, and what they say of a world. -/
import Derived.WalkKit
import Derived.Below
import Derived.KernelRfl
import Derived.RowKit
import Derived.Laws.AppendOwn
import Derived.Laws.OwnMore
import Derived.Deep.MidRow
namespace Go.Proofs.YtggikacbelogcaaGreat.Ex
open Go Go.RowKit
set_option linter.unusedVariables false

/-! ### kinds of plain data -/
inductive SK : Type where
  | int (k : IntKind) | bool | str | row (s : List SK) | ptr (s : List SK) | adr | fnc (f : Nat)
mutual
def SK.ty : SK → Type
  | .int _ => Int
  | .bool => Bool
  | .str => ByteArray
  | .row s => List (Tup s)
  | .ptr s => Tup s
  | .adr => Nat × Nat
  | .fnc _ => Unit
def Tup : List SK → Type
  | [] => Unit
  | k :: r => match r with
    | [] => k.ty
    | k' :: r' => k.ty × Tup (k' :: r')
end
mutual
def SK.z : (k : SK) → k.ty
  | .int _ => (0 : Int)
  | .bool => false
  | .str => (⟨#[]⟩ : ByteArray)
  | .row _ => []
  | .ptr s => zT s
  | .adr => ((0, 0) : Nat × Nat)
  | .fnc _ => ()
def zT : (s : List SK) → Tup s
  | [] => ()
  | k :: r => match r with
    | [] => k.z
    | k' :: r' => (k.z, zT (k' :: r'))
end
mutual
def SK.same : SK → SK → Bool
  | .int k, .int k' => decide (k = k')
  | .bool, .bool => true
  | .str, .str => true
  | .row s, .row s' => sames s s'
  | .ptr s, .ptr s' => sames s s'
  | .adr, .adr => true
  | .fnc f, .fnc g => Nat.beq f g
  | _, _ => false
def sames : List SK → List SK → Bool
  | [], [] => true
  | k :: r, k' :: r' => k.same k' && sames r r'
  | _, _ => false
end
mutual
theorem SK.same_eq : ∀ {a b : SK}, a.same b = true → a = b
  | .int k, b, h => by cases b <;> simp_all [SK.same]
  | .bool, b, h => by cases b <;> simp_all [SK.same]
  | .str, b, h => by cases b <;> simp_all [SK.same]
  | .row s, b, h => by
    cases b <;> simp only [SK.same] at h <;> first | cases h | skip
    rw [sames_eq h]
  | .ptr s, b, h => by
    cases b <;> simp only [SK.same] at h <;> first | cases h | skip
    rw [sames_eq h]
  | .adr, b, h => by cases b <;> simp_all [SK.same]
  | .fnc f, b, h => by
    cases b <;> simp only [SK.same] at h <;> first | cases h | skip
    rw [Nat.eq_of_beq_eq_true h]
theorem sames_eq : ∀ {a b : List SK}, sames a b = true → a = b
  | [], [], _ => rfl
  | [], _ :: _, h => by simp [sames] at h
  | _ :: _, [], h => by simp [sames] at h
  | k :: r, k' :: r', h => by
    simp only [sames, Bool.and_eq_true] at h
    rw [SK.same_eq h.1, sames_eq h.2]
end
/-- Data of one kind taken for data of the same kind under another name. -/
def castT {s s' : List SK} (h : sames s s' = true) (x : Tup s) : Tup s' := sames_eq h ▸ x
def asRows (s s' : List SK) (l : List (Tup s)) : Option (List (Tup s')) := if h : sames s s' = true then some (sames_eq h ▸ l) else none
theorem asRows_some {s s' : List SK} {l : List (Tup s)} {l' : List (Tup s')} (h : asRows s s' l = some l') : ∃ e : s = s', l' = e ▸ l := by
  unfold asRows at h
  split at h
  · rename_i hs
    cases h
    exact ⟨sames_eq hs, rfl⟩
  · cases h
def asTup (s s' : List SK) (x : Tup s) : Option (Tup s') := if h : sames s s' = true then some (sames_eq h ▸ x) else none
theorem asTup_some {s s' : List SK} {x : Tup s} {x' : Tup s'} (h : asTup s s' x = some x') : ∃ e : s = s', x' = e ▸ x := by
  unfold asTup at h
  split at h
  · rename_i hs
    cases h
    exact ⟨sames_eq hs, rfl⟩
  · cases h

/-! ### what data is in a world -/
def CellsAt (w : World) (b o : Nat) (cs : List Value) : Prop := ∀ j u, cs[j]? = some u → w.cell? ⟨b, o + j, none⟩ = some u
mutual
def SKIs (ok : Nat → Prop) (w : World) : (k : SK) → k.ty → Value → Prop
  | .int k, n, v => v = .int k n
  | .bool, b, v => v = .bool b
  | .str, s, v => v = .string s
  | .row s, l, v => ∃ A c, v = .slice A (List.length (α := Tup s) l) c ∧ List.length (α := Tup s) l ≤ c ∧ ∀ (i : Nat) (x : Tup s), (show List (Tup s) from l)[i]? = some x → ∃ b o cs, A = some ⟨b, o, none⟩ ∧ ok b ∧ cs.length = s.length ∧ CellsAt w b (o + i * s.length) cs ∧ TupIs ok w s x cs
  | .ptr s, x, v => ∃ b o cs, v = .pointer (some ⟨b, o, none⟩) ∧ ok b ∧ cs.length = s.length ∧ CellsAt w b o cs ∧ TupIs ok w s x cs
  | .adr, x, v => v = .pointer (some ⟨x.1, x.2, none⟩)
  | .fnc f, _, v => v = .func (.func f) #[] #[]
def TupIs (ok : Nat → Prop) (w : World) : (s : List SK) → Tup s → List Value → Prop
  | [] => fun _ cs => cs = []
  | k :: r => match r with
    | [] => fun x cs => ∃ u, cs = [u] ∧ SKIs ok w k x u
    | k' :: r' => fun x cs => ∃ u us, cs = u :: us ∧ SKIs ok w k x.1 u ∧ TupIs ok w (k' :: r') x.2 us
end
theorem TupIs.len {ok : Nat → Prop} {w : World} : ∀ {s : List SK} {x : Tup s} {cs : List Value}, TupIs ok w s x cs → cs.length = s.length
  | [], _, _, h => by simp only [TupIs] at h; simp [h]
  | [k], x, cs, h => by
    simp only [TupIs] at h
    obtain ⟨u, rfl, _⟩ := h
    rfl
  | k :: k' :: r, x, cs, h => by
    simp only [TupIs] at h
    obtain ⟨u, us, rfl, _, h2⟩ := h
    have := TupIs.len h2
    simp only [List.length_cons] at this ⊢
    omega
/-- What is known of worlds: what is ok stays as it is. -/
def Stays (ok ok' : Nat → Prop) (w w' : World) : Prop := ∀ b, ok b → ok' b ∧ w'.heap[b]? = w.heap[b]?
theorem Stays.cells {ok ok' : Nat → Prop} {w w' : World} (h : Stays ok ok' w w') {b o : Nat} {cs : List Value} (hb : ok b) (hc : CellsAt w b o cs) : CellsAt w' b o cs := fun j u hu => by
  rw [World.cell?_of_block (w := w) (h b hb).2]
  exact hc j u hu
mutual
theorem SKIs.move {ok ok' : Nat → Prop} {w w' : World} (hs : Stays ok ok' w w') : ∀ {k : SK} {x : k.ty} {v : Value}, SKIs ok w k x v → SKIs ok' w' k x v
  | .int _, _, _, h => by simpa only [SKIs] using h
  | .bool, _, _, h => by simpa only [SKIs] using h
  | .str, _, _, h => by simpa only [SKIs] using h
  | .row s, l, v, h => by
    simp only [SKIs] at h ⊢
    obtain ⟨A, c, rfl, hc, hr⟩ := h
    refine ⟨A, c, rfl, hc, fun i x hx => ?_⟩
    obtain ⟨b, o, cs, rfl, hb, hl, hcs, ht⟩ := hr i x hx
    exact ⟨b, o, cs, rfl, (hs b hb).1, hl, hs.cells hb hcs, TupIs.move hs ht⟩
  | .ptr s, x, v, h => by
    simp only [SKIs] at h ⊢
    obtain ⟨b, o, cs, rfl, hb, hl, hcs, ht⟩ := h
    exact ⟨b, o, cs, rfl, (hs b hb).1, hl, hs.cells hb hcs, TupIs.move hs ht⟩
  | .adr, _, _, h => by simpa only [SKIs] using h
  | .fnc _, _, _, h => by simpa only [SKIs] using h
theorem TupIs.move {ok ok' : Nat → Prop} {w w' : World} (hs : Stays ok ok' w w') : ∀ {s : List SK} {x : Tup s} {cs : List Value}, TupIs ok w s x cs → TupIs ok' w' s x cs
  | [], _, _, h => by simpa only [TupIs] using h
  | [k], x, cs, h => by
    simp only [TupIs] at h ⊢
    obtain ⟨u, rfl, h⟩ := h
    exact ⟨u, rfl, SKIs.move hs h⟩
  | k :: k' :: r, x, cs, h => by
    simp only [TupIs] at h ⊢
    obtain ⟨u, us, rfl, h1, h2⟩ := h
    exact ⟨u, us, rfl, SKIs.move hs h1, TupIs.move hs h2⟩
end

/-! ### abstract values -/
inductive PV : Type where
  | un
  | v (x : Value)
  | row (fr : Bool) (s : List SK) (l : List (Tup s))
  | own (i : Nat)
  | ptr (i off : Nat)
  | rptr (fr : Bool) (s : List SK) (x : Tup s) (off : Nat)
  | eptr (i : Nat) (j : Int) (sz off : Nat)
  | mp (i : Nat)
  | ocut (i : Nat) (j : Int) (sz : Nat)
  | prow (i : Nat) (offs : List Nat)
  | pcel (i off : Nat)
  | rmap (ks : List (Int × Int)) (vs : List PV)
  | fn (f : Nat) (caps : List PV)
  | agg (cs : List PV)
  | tup (vs : List PV)
inductive ABlk : Type where
  | no
  | box (T : TypeId) (cs : List PV)
  | own (fr : Bool) (T : TypeId) (s : List SK) (l : List (Tup s))
  | mset (l : List Int)
structure AS where
  fr : Nat → PV
  σ : Nat → ABlk
/-- How the numbers of abstract blocks lie in a world: a row's value, a box's block; and which blocks nobody writes. -/
structure Nm where
  v : Nat → Value
  b : Nat → Nat
  F : Nat → Prop
def okOf (m : Nm) (B0 : Nat) (fr : Bool) (k : Nat) : Prop := m.F k ∧ (fr = true → B0 ≤ k)
mutual
inductive RepV (m : Nm) (B0 : Nat) (w : World) : PV → Value → Prop where
  | un {v : Value} : RepV m B0 w .un v
  | v {x : Value} : RepV m B0 w (.v x) x
  | row {fr : Bool} {s : List SK} {l : List (Tup s)} {v : Value} (h : SKIs (okOf m B0 fr) w (.row s) l v) : RepV m B0 w (.row fr s l) v
  | own {i n c : Nat} {A : Option Addr} (h : m.v i = .slice A n c) : RepV m B0 w (.own i) (.slice A n c)
  | ptr {i off : Nat} : RepV m B0 w (.ptr i off) (.pointer (some ⟨m.b i, off, none⟩))
  | rptr {fr : Bool} {s : List SK} {x : Tup s} {off b o : Nat} (h : SKIs (okOf m B0 fr) w (.ptr s) x (.pointer (some ⟨b, o, none⟩))) : RepV m B0 w (.rptr fr s x off) (.pointer (some ⟨b, o + off, none⟩))
  | eptr {i sz off g n c : Nat} {j : Int} (h : m.v i = .slice (some ⟨g, 0, none⟩) n c) (h0 : 0 ≤ j) (h1 : j < n) : RepV m B0 w (.eptr i j sz off) (.pointer (some ⟨g, j.toNat * sz + off, none⟩))
  | ocut {i sz n c : Nat} {j : Int} {A : Option Addr} (h : m.v i = .slice A n c) (h0 : 0 ≤ j) (h1 : j ≤ n) : RepV m B0 w (.ocut i j sz) (.slice (if c = j.toNat then A else A.map fun x => x.add (j.toNat * sz)) (n - j.toNat) (c - j.toNat))
  | mp {i : Nat} : RepV m B0 w (.mp i) (.map (some (m.b i)))
  | prow {i b c : Nat} {offs : List Nat} (h : m.F b) (hc : offs.length ≤ c) (hh : ∀ j o, offs[j]? = some o → w.cell? ⟨b, j, none⟩ = some (.pointer (some ⟨m.b i, o, none⟩))) : RepV m B0 w (.prow i offs) (.slice (some ⟨b, 0, none⟩) offs.length c)
  | pcel {i off b o : Nat} (h : m.F b) (hh : w.cell? ⟨b, o, none⟩ = some (.pointer (some ⟨m.b i, off, none⟩))) : RepV m B0 w (.pcel i off) (.pointer (some ⟨b, o, none⟩))
  | rmap {b clock : Nat} {ks : List (Int × Int)} {vs : List PV} {us : List Value} {es : Array MapEntry} (h : m.F b) (hv : RepVs m B0 w vs us) (hl : ks.length = us.length) (hh : w.heap[b]? = some (.map es clock)) (hp : (es.toList.map fun e => (e.key, e.val)).Perm ((ks.map fun k => Value.agg #[.int .i64 k.1, .int .i64 k.2]).zip us)) : RepV m B0 w (.rmap ks vs) (.map (some b))
  | fn {f : Nat} {caps : List PV} {vs : List Value} (h : RepVs m B0 w caps vs) : RepV m B0 w (.fn f caps) (.func (.func f) #[] vs.toArray)
  | agg {cs : List PV} {vs : List Value} (h : RepVs m B0 w cs vs) : RepV m B0 w (.agg cs) (.agg vs.toArray)
  | tup {cs : List PV} {vs : List Value} (h : RepVs m B0 w cs vs) : RepV m B0 w (.tup cs) (.tuple vs.toArray)
inductive RepVs (m : Nm) (B0 : Nat) (w : World) : List PV → List Value → Prop where
  | nil : RepVs m B0 w [] []
  | cons {p : PV} {ps : List PV} {v : Value} {vs : List Value} (h : RepV m B0 w p v) (hs : RepVs m B0 w ps vs) : RepVs m B0 w (p :: ps) (v :: vs)
end
mutual
/-- Which numbers of abstract blocks a value names. -/
def PV.ids (p : Nat → Bool) : PV → Bool
  | .own i => p i
  | .ptr i _ => p i
  | .eptr i _ _ _ => p i
  | .mp i => p i
  | .ocut i _ _ => p i
  | .prow i _ => p i
  | .pcel i _ => p i
  | .rmap _ vs => idsL p vs
  | .fn _ caps => idsL p caps
  | .agg cs => idsL p cs
  | .tup vs => idsL p vs
  | _ => true
def idsL (p : Nat → Bool) : List PV → Bool
  | [] => true
  | x :: r => x.ids p && idsL p r
end
def ABlk.ids (p : Nat → Bool) : ABlk → Bool
  | .box _ cs => idsL p cs
  | _ => true
/-- Names that have grown: what p lets in is named as it was; nothing that nobody writes has turned. -/
structure Grows (p : Nat → Bool) (m m' : Nm) (w w' : World) : Prop where
  v : ∀ i, p i = true → m'.v i = m.v i
  b : ∀ i, p i = true → m'.b i = m.b i
  F : Stays m.F m'.F w w'
theorem Grows.refl (p : Nat → Bool) (m : Nm) (w : World) : Grows p m m w w := ⟨fun _ _ => rfl, fun _ _ => rfl, fun _ h => ⟨h, rfl⟩⟩
theorem Grows.ok {p : Nat → Bool} {m m' : Nm} {w w' : World} (h : Grows p m m' w w') (B0 : Nat) (fr : Bool) : Stays (okOf m B0 fr) (okOf m' B0 fr) w w' := fun b hb => ⟨⟨(h.F b hb.1).1, hb.2⟩, (h.F b hb.1).2⟩
mutual
theorem RepV.move {p : Nat → Bool} {m m' : Nm} {B0 : Nat} {w w' : World} (hg : Grows p m m' w w') : ∀ {x : PV} {v : Value}, RepV m B0 w x v → x.ids p = true → RepV m' B0 w' x v
  | _, _, .un, _ => .un
  | _, _, .v, _ => .v
  | _, _, .row h, _ => .row (SKIs.move (hg.ok B0 _) h)
  | _, _, .own h, hp => by
    simp only [PV.ids] at hp
    exact .own ((hg.v _ hp).trans h)
  | _, _, .ptr, hp => by
    simp only [PV.ids] at hp
    rw [← hg.b _ hp]
    exact .ptr
  | _, _, .rptr h, _ => .rptr (SKIs.move (hg.ok B0 _) h)
  | _, _, .eptr h h0 h1, hp => by
    simp only [PV.ids] at hp
    exact .eptr ((hg.v _ hp).trans h) h0 h1
  | _, _, .ocut h h0 h1, hp => by
    simp only [PV.ids] at hp
    exact .ocut ((hg.v _ hp).trans h) h0 h1
  | _, _, .mp, hp => by
    simp only [PV.ids] at hp
    rw [← hg.b _ hp]
    exact .mp
  | _, _, .prow h hc hh, hp => by
    simp only [PV.ids] at hp
    refine .prow (hg.F _ h).1 hc (fun j o hj => ?_)
    rw [hg.b _ hp, World.cell?_of_block (w := w) (hg.F _ h).2]
    exact hh j o hj
  | _, _, .pcel h hh, hp => by
    simp only [PV.ids] at hp
    refine .pcel (hg.F _ h).1 ?_
    rw [hg.b _ hp, World.cell?_of_block (w := w) (hg.F _ h).2]
    exact hh
  | _, _, .rmap h hv hl hh hpm, hp => by
    simp only [PV.ids] at hp
    exact .rmap (hg.F _ h).1 (RepVs.move hg hv hp) hl ((hg.F _ h).2.trans hh) hpm
  | _, _, .fn h, hp => by
    simp only [PV.ids] at hp
    exact .fn (RepVs.move hg h hp)
  | _, _, .agg h, hp => by
    simp only [PV.ids] at hp
    exact .agg (RepVs.move hg h hp)
  | _, _, .tup h, hp => by
    simp only [PV.ids] at hp
    exact .tup (RepVs.move hg h hp)
theorem RepVs.move {p : Nat → Bool} {m m' : Nm} {B0 : Nat} {w w' : World} (hg : Grows p m m' w w') : ∀ {x : List PV} {v : List Value}, RepVs m B0 w x v → idsL p x = true → RepVs m' B0 w' x v
  | _, _, .nil, _ => .nil
  | _, _, .cons h hs, hp => by
    simp only [idsL, Bool.and_eq_true] at hp
    exact .cons (RepV.move hg h hp.1) (RepVs.move hg hs hp.2)
end

/-! ### what an abstract state says -/
def RowsIs (ok : Nat → Prop) (w : World) (s : List SK) (l : List (Tup s)) (xs : List Value) : Prop := ∀ i x, l[i]? = some x → TupIs ok w s x ((xs.drop (i * s.length)).take s.length)
def BlkIs (m : Nm) (B0 : Nat) (w : World) (i : Nat) : ABlk → Prop
  | .no => True
  | .box T cs => B0 ≤ m.b i ∧ ¬ m.F (m.b i) ∧ ∃ vs, RepVs m B0 w cs vs ∧ w.heap[m.b i]? = some (.cells vs.toArray T (0, 0))
  | .own fr T s l => ∃ xs, w.ownsRow B0 T s.length (m.v i) l.length xs ∧ RowsIs (okOf m B0 fr) w s l xs ∧ ∀ k, (m.v i).ownBlock = some k → ¬ m.F k
  | .mset l => B0 ≤ m.b i ∧ ¬ m.F (m.b i) ∧ ∃ es clock, w.heap[m.b i]? = some (.map es clock) ∧ es.toList.map (fun e => (e.key, e.val)) = l.map fun n => (Value.int .i64 n, Value.bool true)
def blkOf (m : Nm) (i : Nat) : ABlk → Option Nat
  | .no => none
  | .box _ _ => some (m.b i)
  | .own _ _ _ _ => (m.v i).ownBlock
  | .mset _ => some (m.b i)
/-- The world at a function's beginning, and blocks of it that stand. -/
structure Org extends World where
  kept : Nat → Option Obj
/-- The blocks alone. -/
structure Heap (w0 : Org) (m : Nm) (σ : Nat → ABlk) (w : World) : Prop where
  blk : ∀ i, BlkIs m w0.heap.size w i (σ i)
  apart : ∀ i j k, i ≠ j → blkOf m i (σ i) = some k → blkOf m j (σ j) = some k → False
  flt : ∀ k, m.F k → k < w.heap.size
  below : Below w0.heap.size w0.toWorld w
  kept : ∀ k ob, w0.kept k = some ob → m.F k ∧ w.heap[k]? = some ob
structure Rep (w0 : Org) (N : Nat) (m : Nm) (s : AS) (a : Act) (w : World) : Prop where
  size : a.tmps.size = N
  nodef : a.defers = []
  get : ∀ t, RepV m w0.heap.size w (s.fr t) (a.tmps.getD t undef)
  heap : Heap w0 m s.σ w
/-- An effect: the value of the slot, the blocks that are new, or told anew. -/
structure Eff where
  v : PV
  upd : List (Nat × ABlk)
def updσ (σ : Nat → ABlk) : List (Nat × ABlk) → Nat → ABlk
  | [] => σ
  | e :: r => updσ (fun k => bif Nat.beq k e.1 then e.2 else σ k) r
def updf (fr : Nat → PV) (d : Option Nat) (v : PV) : Nat → PV := match d with
  | some t => fun u => bif Nat.beq u t then v else fr u
  | none => fr
def AS.app (s : AS) (d : Option Nat) (E : Eff) : AS := ⟨updf s.fr d E.v, updσ s.σ E.upd⟩
/-- s' knows what s knows. -/
structure Le (s s' : AS) : Prop where
  fr : ∀ t, s.fr t = .un ∨ s'.fr t = s.fr t
  σ : ∀ i, s.σ i = .no ∨ s'.σ i = s.σ i
theorem Le.refl (s : AS) : Le s s := ⟨fun _ => .inr rfl, fun _ => .inr rfl⟩
theorem Rep.le {w0 : Org} {N : Nat} {m : Nm} {s s' : AS} {a : Act} {w : World} (h : Rep w0 N m s' a w) (hl : Le s s') : Rep w0 N m s a w := by
  refine ⟨h.size, h.nodef, fun t => ?_, ⟨fun i => ?_, fun i j k hij hi hj => ?_, h.heap.flt, h.heap.below, h.heap.kept⟩⟩
  · rcases hl.fr t with h1 | h1
    · rw [h1]; exact .un
    · rw [← h1]; exact h.get t
  · rcases hl.σ i with h1 | h1
    · rw [h1]; trivial
    · rw [← h1]; exact h.heap.blk i
  · rcases hl.σ i with h1 | h1
    · rw [h1] at hi; cases hi
    rcases hl.σ j with h2 | h2
    · rw [h2] at hj; cases hj
    rw [← h1] at hi
    rw [← h2] at hj
    exact h.heap.apart i j k hij hi hj
/-- Operands. -/
def AS.ev (s : AS) : Operand → PV
  | .tmp t => s.fr t
  | .const v => .v v
  | .func f => .fn f []
  | .global _ => .un
theorem Rep.ev {w0 : Org} {N : Nat} {m : Nm} {s : AS} {a : Act} {w : World} (h : Rep w0 N m s a w) (x : Operand) : RepV m w0.heap.size w (s.ev x) (a.eval x) := by
  cases x with
  | tmp t => exact h.get t
  | const v => exact .v
  | func f => exact .fn .nil
  | global g => exact .un
theorem updf_get {fr : Nat → PV} {d : Option Nat} {v : PV} {t : Nat} : updf fr d v t = if d = some t then v else fr t := by
  unfold updf
  cases d with
  | none => simp
  | some u =>
    by_cases h : t = u
    · subst h; simp
    · have hb : Nat.beq t u = false := by cases hq : Nat.beq t u with
        | true => exact absurd (Nat.eq_of_beq_eq_true hq) h
        | false => rfl
      simp [hb, Ne.symm h]
theorem put_size (a : Act) (d : Option Nat) (v : Value) : (a.put d v).tmps.size = a.tmps.size := by cases d <;> simp [Act.put]
theorem put_defers (a : Act) (d : Option Nat) (v : Value) : (a.put d v).defers = a.defers := by cases d <;> rfl
theorem put_get {a : Act} {d : Option Nat} {v : Value} {t : Nat} (h : ∀ u, d = some u → u < a.tmps.size) : (a.put d v).tmps.getD t undef = if d = some t then v else a.tmps.getD t undef := by
  cases d with
  | none => simp [Act.put]
  | some u =>
    have hu := h u rfl
    by_cases ht : u = t
    · subst ht; simp [Act.put, hu, Array.getD_eq_getD_getElem?]
    · simp [Act.put, ht, Array.getD_eq_getD_getElem?, Array.getElem?_setIfInBounds_ne ht]
def dOk (d : Option Nat) (N : Nat) : Bool := match d with
  | some t => Nat.blt t N
  | none => true
theorem dOk_lt {d : Option Nat} {N : Nat} (h : dOk d N = true) : ∀ u, d = some u → u < N := fun u hu => by
  subst hu
  exact Nat.le_of_ble_eq_true h
/-- A slot is filled; the blocks are told anew; what was told of the other slots stands. -/
theorem Rep.put {w0 : Org} {N : Nat} {m m' : Nm} {s : AS} {a : Act} {w w' : World} {p : Nat → Bool} {d : Option Nat} {E : Eff} {v : Value} (h : Rep w0 N m s a w) (hd : dOk d N = true) (hg : Grows p m m' w w')
    (hi : ∀ t, (s.fr t).ids p = true) (hv : RepV m' w0.heap.size w' E.v v) (hh : Heap w0 m' (updσ s.σ E.upd) w') : Rep w0 N m' (s.app d E) (a.put d v) w' := by
  refine ⟨by rw [put_size]; exact h.size, by rw [put_defers]; exact h.nodef, fun t => ?_, hh⟩
  show RepV m' w0.heap.size w' (updf s.fr d E.v t) _
  rw [updf_get, put_get (fun u hu => by rw [h.size]; exact dOk_lt hd u hu)]
  split
  · exact hv
  · exact RepV.move hg (h.get t) (hi t)
end Go.Proofs.YtggikacbelogcaaGreat.Ex
