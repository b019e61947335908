/- An executor of translated code on abstract states, first part: kinds, abstract values, and what they say of a world. -/
import Derived.WalkKit
import Derived.Test.YtaknikdbnfmlfaaDoorGk
import Derived.Below
import Derived.KernelRfl
import Derived.RowKit
import Derived.Laws.AppendOwn
import Derived.Laws.OwnMore
import Derived.Deep.MidRow
import Derived.Laws.StructEq
namespace Go.Proofs.YtaknikdbnfmlfaaDoor.Ex
open Go Go.RowKit
set_option linter.unusedVariables false

/-! ### kinds of plain data -/
inductive SK : Type where
  | int (k : IntKind) | bool | str | row (s : List SK) | ptr (s : List SK) | adr | fnc (f : Nat)
mutual
def SK.ty : SK → Type
  | .int _ => Int
  | .bool => Bool
  | .str => ByteArray
  | .row s => List (Tup s)
  | .ptr s => Tup s
  | .adr => Nat × Nat
  | .fnc _ => Unit
def Tup : List SK → Type
  | [] => Unit
  | k :: r => match r with
    | [] => k.ty
    | k' :: r' => k.ty × Tup (k' :: r')
end
mutual
def SK.z : (k : SK) → k.ty
  | .int _ => (0 : Int)
  | .bool => false
  | .str => (⟨#[]⟩ : ByteArray)
  | .row _ => []
  | .ptr s => zT s
  | .adr => ((0, 0) : Nat × Nat)
  | .fnc _ => ()
def zT : (s : List SK) → Tup s
  | [] => ()
  | k :: r => match r with
    | [] => k.z
    | k' :: r' => (k.z, zT (k' :: r'))
end
mutual
def SK.same : SK → SK → Bool
  | .int k, .int k' => decide (k = k')
  | .bool, .bool => true
  | .str, .str => true
  | .row s, .row s' => sames s s'
  | .ptr s, .ptr s' => sames s s'
  | .adr, .adr => true
  | .fnc f, .fnc g => Nat.beq f g
  | _, _ => false
def sames : List SK → List SK → Bool
  | [], [] => true
  | k :: r, k' :: r' => k.same k' && sames r r'
  | _, _ => false
end
mutual
theorem SK.same_eq : ∀ {a b : SK}, a.same b = true → a = b
  | .int k, b, h => by cases b <;> simp_all [SK.same]
  | .bool, b, h => by cases b <;> simp_all [SK.same]
  | .str, b, h => by cases b <;> simp_all [SK.same]
  | .row s, b, h => by
    cases b <;> simp only [SK.same] at h <;> first | cases h | skip
    rw [sames_eq h]
  | .ptr s, b, h => by
    cases b <;> simp only [SK.same] at h <;> first | cases h | skip
    rw [sames_eq h]
  | .adr, b, h => by cases b <;> simp_all [SK.same]
  | .fnc f, b, h => by
    cases b <;> simp only [SK.same] at h <;> first | cases h | skip
    rw [Nat.eq_of_beq_eq_true h]
theorem sames_eq : ∀ {a b : List SK}, sames a b = true → a = b
  | [], [], _ => rfl
  | [], _ :: _, h => by simp [sames] at h
  | _ :: _, [], h => by simp [sames] at h
  | k :: r, k' :: r', h => by
    simp only [sames, Bool.and_eq_true] at h
    rw [SK.same_eq h.1, sames_eq h.2]
end
/-- Data of one kind taken for data of the same kind under another name. -/
def castT {s s' : List SK} (h : sames s s' = true) (x : Tup s) : Tup s' := sames_eq h ▸ x
def asRows (s s' : List SK) (l : List (Tup s)) : Option (List (Tup s')) := if h : sames s s' = true then some (sames_eq h ▸ l) else none
theorem asRows_some {s s' : List SK} {l : List (Tup s)} {l' : List (Tup s')} (h : asRows s s' l = some l') : ∃ e : s = s', l' = e ▸ l := by
  unfold asRows at h
  split at h
  · rename_i hs
    cases h
    exact ⟨sames_eq hs, rfl⟩
  · cases h
def asTup (s s' : List SK) (x : Tup s) : Option (Tup s') := if h : sames s s' = true then some (sames_eq h ▸ x) else none
theorem asTup_some {s s' : List SK} {x : Tup s} {x' : Tup s'} (h : asTup s s' x = some x') : ∃ e : s = s', x' = e ▸ x := by
  unfold asTup at h
  split at h
  · rename_i hs
    cases h
    exact ⟨sames_eq hs, rfl⟩
  · cases h

/-! ### what data is in a world -/
def CellsAt (w : World) (b o : Nat) (cs : List Value) : Prop := ∀ j u, cs[j]? = some u → w.cell? ⟨b, o + j, none⟩ = some u
mutual
def SKIs (ok : Nat → Prop) (w : World) : (k : SK) → k.ty → Value → Prop
  | .int k, n, v => v = .int k n
  | .bool, b, v => v = .bool b
  | .str, s, v => v = .string s
  | .row s, l, v => ∃ A c, v = .slice A (List.length (α := Tup s) l) c ∧ List.length (α := Tup s) l ≤ c ∧ ∀ (i : Nat) (x : Tup s), (show List (Tup s) from l)[i]? = some x → ∃ b o cs, A = some ⟨b, o, none⟩ ∧ ok b ∧ cs.length = s.length ∧ CellsAt w b (o + i * s.length) cs ∧ TupIs ok w s x cs
  | .ptr s, x, v => ∃ b o cs, v = .pointer (some ⟨b, o, none⟩) ∧ ok b ∧ cs.length = s.length ∧ CellsAt w b o cs ∧ TupIs ok w s x cs
  | .adr, x, v => v = .pointer (some ⟨x.1, x.2, none⟩)
  | .fnc f, _, v => v = .func (.func f) #[] #[]
def TupIs (ok : Nat → Prop) (w : World) : (s : List SK) → Tup s → List Value → Prop
  | [] => fun _ cs => cs = []
  | k :: r => match r with
    | [] => fun x cs => ∃ u, cs = [u] ∧ SKIs ok w k x u
    | k' :: r' => fun x cs => ∃ u us, cs = u :: us ∧ SKIs ok w k x.1 u ∧ TupIs ok w (k' :: r') x.2 us
end
theorem TupIs.len {ok : Nat → Prop} {w : World} : ∀ {s : List SK} {x : Tup s} {cs : List Value}, TupIs ok w s x cs → cs.length = s.length
  | [], _, _, h => by simp only [TupIs] at h; simp [h]
  | [k], x, cs, h => by
    simp only [TupIs] at h
    obtain ⟨u, rfl, _⟩ := h
    rfl
  | k :: k' :: r, x, cs, h => by
    simp only [TupIs] at h
    obtain ⟨u, us, rfl, _, h2⟩ := h
    have := TupIs.len h2
    simp only [List.length_cons] at this ⊢
    omega
/-- What is known of worlds: what is ok stays as it is. -/
def Stays (ok ok' : Nat → Prop) (w w' : World) : Prop := ∀ b, ok b → ok' b ∧ w'.heap[b]? = w.heap[b]?
theorem Stays.cells {ok ok' : Nat → Prop} {w w' : World} (h : Stays ok ok' w w') {b o : Nat} {cs : List Value} (hb : ok b) (hc : CellsAt w b o cs) : CellsAt w' b o cs := fun j u hu => by
  rw [World.cell?_of_block (w := w) (h b hb).2]
  exact hc j u hu
mutual
theorem SKIs.move {ok ok' : Nat → Prop} {w w' : World} (hs : Stays ok ok' w w') : ∀ {k : SK} {x : k.ty} {v : Value}, SKIs ok w k x v → SKIs ok' w' k x v
  | .int _, _, _, h => by simpa only [SKIs] using h
  | .bool, _, _, h => by simpa only [SKIs] using h
  | .str, _, _, h => by simpa only [SKIs] using h
  | .row s, l, v, h => by
    simp only [SKIs] at h ⊢
    obtain ⟨A, c, rfl, hc, hr⟩ := h
    refine ⟨A, c, rfl, hc, fun i x hx => ?_⟩
    obtain ⟨b, o, cs, rfl, hb, hl, hcs, ht⟩ := hr i x hx
    exact ⟨b, o, cs, rfl, (hs b hb).1, hl, hs.cells hb hcs, TupIs.move hs ht⟩
  | .ptr s, x, v, h => by
    simp only [SKIs] at h ⊢
    obtain ⟨b, o, cs, rfl, hb, hl, hcs, ht⟩ := h
    exact ⟨b, o, cs, rfl, (hs b hb).1, hl, hs.cells hb hcs, TupIs.move hs ht⟩
  | .adr, _, _, h => by simpa only [SKIs] using h
  | .fnc _, _, _, h => by simpa only [SKIs] using h
theorem TupIs.move {ok ok' : Nat → Prop} {w w' : World} (hs : Stays ok ok' w w') : ∀ {s : List SK} {x : Tup s} {cs : List Value}, TupIs ok w s x cs → TupIs ok' w' s x cs
  | [], _, _, h => by simpa only [TupIs] using h
  | [k], x, cs, h => by
    simp only [TupIs] at h ⊢
    obtain ⟨u, rfl, h⟩ := h
    exact ⟨u, rfl, SKIs.move hs h⟩
  | k :: k' :: r, x, cs, h => by
    simp only [TupIs] at h ⊢
    obtain ⟨u, us, rfl, h1, h2⟩ := h
    exact ⟨u, us, rfl, SKIs.move hs h1, TupIs.move hs h2⟩
end

/-! ### abstract values -/
inductive PV : Type where
  | un
  | v (x : Value)
  | row (fr : Bool) (s : List SK) (l : List (Tup s))
  | own (i : Nat)
  | ptr (i off : Nat)
  | rptr (fr : Bool) (s : List SK) (x : Tup s) (off : Nat)
  | eptr (i : Nat) (j : Int) (sz off : Nat)
  | mp (i : Nat)
  | ocut (i : Nat) (j : Int) (sz : Nat)
  | prow (i : Nat) (offs : List Nat)
  | pcel (i off : Nat)
  | rmap (ks : List (Int × Int)) (vs : List PV)
  | fn (f : Nat) (caps : List PV)
  | agg (cs : List PV)
  | tup (vs : List PV)
inductive ABlk : Type where
  | no
  | box (T : TypeId) (cs : List PV)
  | own (fr : Bool) (T : TypeId) (s : List SK) (l : List (Tup s))
  | mset (l : List Int)
  | obj (n : Nat) (x : OT n) (j : Nat)
structure AS where
  fr : Nat → PV
  σ : Nat → ABlk
/-- How the numbers of abstract blocks lie in a world: a row's value, a box's block; and which blocks nobody writes. -/
structure Nm where
  v : Nat → Value
  b : Nat → Nat
  F : Nat → Prop
def okOf (m : Nm) (B0 : Nat) (fr : Bool) (k : Nat) : Prop := m.F k ∧ (fr = true → B0 ≤ k)
mutual
inductive RepV (m : Nm) (B0 : Nat) (w : World) : PV → Value → Prop where
  | un {v : Value} : RepV m B0 w .un v
  | v {x : Value} : RepV m B0 w (.v x) x
  | row {fr : Bool} {s : List SK} {l : List (Tup s)} {v : Value} (h : SKIs (okOf m B0 fr) w (.row s) l v) : RepV m B0 w (.row fr s l) v
  | own {i n c : Nat} {A : Option Addr} (h : m.v i = .slice A n c) : RepV m B0 w (.own i) (.slice A n c)
  | ptr {i off : Nat} : RepV m B0 w (.ptr i off) (.pointer (some ⟨m.b i, off, none⟩))
  | rptr {fr : Bool} {s : List SK} {x : Tup s} {off b o : Nat} (h : SKIs (okOf m B0 fr) w (.ptr s) x (.pointer (some ⟨b, o, none⟩))) : RepV m B0 w (.rptr fr s x off) (.pointer (some ⟨b, o + off, none⟩))
  | eptr {i sz off g n c : Nat} {j : Int} (h : m.v i = .slice (some ⟨g, 0, none⟩) n c) (h0 : 0 ≤ j) (h1 : j < n) : RepV m B0 w (.eptr i j sz off) (.pointer (some ⟨g, j.toNat * sz + off, none⟩))
  | ocut {i sz n c : Nat} {j : Int} {A : Option Addr} (h : m.v i = .slice A n c) (h0 : 0 ≤ j) (h1 : j ≤ n) : RepV m B0 w (.ocut i j sz) (.slice (if c = j.toNat then A else A.map fun x => x.add (j.toNat * sz)) (n - j.toNat) (c - j.toNat))
  | mp {i : Nat} : RepV m B0 w (.mp i) (.map (some (m.b i)))
  | prow {i b c : Nat} {offs : List Nat} (h : m.F b) (hc : offs.length ≤ c) (hh : ∀ j o, offs[j]? = some o → w.cell? ⟨b, j, none⟩ = some (.pointer (some ⟨m.b i, o, none⟩))) : RepV m B0 w (.prow i offs) (.slice (some ⟨b, 0, none⟩) offs.length c)
  | pcel {i off b o : Nat} (h : m.F b) (hh : w.cell? ⟨b, o, none⟩ = some (.pointer (some ⟨m.b i, off, none⟩))) : RepV m B0 w (.pcel i off) (.pointer (some ⟨b, o, none⟩))
  | rmap {b clock : Nat} {ks : List (Int × Int)} {vs : List PV} {us : List Value} {es : Array MapEntry} (h : m.F b) (hv : RepVs m B0 w vs us) (hl : ks.length = us.length) (hh : w.heap[b]? = some (.map es clock)) (hp : (es.toList.map fun e => (e.key, e.val)).Perm ((ks.map fun k => Value.agg #[.int .i64 k.1, .int .i64 k.2]).zip us)) : RepV m B0 w (.rmap ks vs) (.map (some b))
  | fn {f : Nat} {caps : List PV} {vs : List Value} (h : RepVs m B0 w caps vs) : RepV m B0 w (.fn f caps) (.func (.func f) #[] vs.toArray)
  | agg {cs : List PV} {vs : List Value} (h : RepVs m B0 w cs vs) : RepV m B0 w (.agg cs) (.agg vs.toArray)
  | tup {cs : List PV} {vs : List Value} (h : RepVs m B0 w cs vs) : RepV m B0 w (.tup cs) (.tuple vs.toArray)
inductive RepVs (m : Nm) (B0 : Nat) (w : World) : List PV → List Value → Prop where
  | nil : RepVs m B0 w [] []
  | cons {p : PV} {ps : List PV} {v : Value} {vs : List Value} (h : RepV m B0 w p v) (hs : RepVs m B0 w ps vs) : RepVs m B0 w (p :: ps) (v :: vs)
end
mutual
/-- Which numbers of abstract blocks a value names. -/
def PV.ids (p : Nat → Bool) : PV → Bool
  | .own i => p i
  | .ptr i _ => p i
  | .eptr i _ _ _ => p i
  | .mp i => p i
  | .ocut i _ _ => p i
  | .prow i _ => p i
  | .pcel i _ => p i
  | .rmap _ vs => idsL p vs
  | .fn _ caps => idsL p caps
  | .agg cs => idsL p cs
  | .tup vs => idsL p vs
  | _ => true
def idsL (p : Nat → Bool) : List PV → Bool
  | [] => true
  | x :: r => x.ids p && idsL p r
end
def ABlk.ids (p : Nat → Bool) : ABlk → Bool
  | .box _ cs => idsL p cs
  | .obj _ _ j => p j
  | _ => true
/-- Names that have grown: what p lets in is named as it was; nothing that nobody writes has turned. -/
structure Grows (p : Nat → Bool) (m m' : Nm) (w w' : World) : Prop where
  v : ∀ i, p i = true → m'.v i = m.v i
  b : ∀ i, p i = true → m'.b i = m.b i
  F : Stays m.F m'.F w w'
theorem Grows.refl (p : Nat → Bool) (m : Nm) (w : World) : Grows p m m w w := ⟨fun _ _ => rfl, fun _ _ => rfl, fun _ h => ⟨h, rfl⟩⟩
theorem Grows.ok {p : Nat → Bool} {m m' : Nm} {w w' : World} (h : Grows p m m' w w') (B0 : Nat) (fr : Bool) : Stays (okOf m B0 fr) (okOf m' B0 fr) w w' := fun b hb => ⟨⟨(h.F b hb.1).1, hb.2⟩, (h.F b hb.1).2⟩
mutual
theorem RepV.move {p : Nat → Bool} {m m' : Nm} {B0 : Nat} {w w' : World} (hg : Grows p m m' w w') : ∀ {x : PV} {v : Value}, RepV m B0 w x v → x.ids p = true → RepV m' B0 w' x v
  | _, _, .un, _ => .un
  | _, _, .v, _ => .v
  | _, _, .row h, _ => .row (SKIs.move (hg.ok B0 _) h)
  | _, _, .own h, hp => by
    simp only [PV.ids] at hp
    exact .own ((hg.v _ hp).trans h)
  | _, _, .ptr, hp => by
    simp only [PV.ids] at hp
    rw [← hg.b _ hp]
    exact .ptr
  | _, _, .rptr h, _ => .rptr (SKIs.move (hg.ok B0 _) h)
  | _, _, .eptr h h0 h1, hp => by
    simp only [PV.ids] at hp
    exact .eptr ((hg.v _ hp).trans h) h0 h1
  | _, _, .ocut h h0 h1, hp => by
    simp only [PV.ids] at hp
    exact .ocut ((hg.v _ hp).trans h) h0 h1
  | _, _, .mp, hp => by
    simp only [PV.ids] at hp
    rw [← hg.b _ hp]
    exact .mp
  | _, _, .prow h hc hh, hp => by
    simp only [PV.ids] at hp
    refine .prow (hg.F _ h).1 hc (fun j o hj => ?_)
    rw [hg.b _ hp, World.cell?_of_block (w := w) (hg.F _ h).2]
    exact hh j o hj
  | _, _, .pcel h hh, hp => by
    simp only [PV.ids] at hp
    refine .pcel (hg.F _ h).1 ?_
    rw [hg.b _ hp, World.cell?_of_block (w := w) (hg.F _ h).2]
    exact hh
  | _, _, .rmap h hv hl hh hpm, hp => by
    simp only [PV.ids] at hp
    exact .rmap (hg.F _ h).1 (RepVs.move hg hv hp) hl ((hg.F _ h).2.trans hh) hpm
  | _, _, .fn h, hp => by
    simp only [PV.ids] at hp
    exact .fn (RepVs.move hg h hp)
  | _, _, .agg h, hp => by
    simp only [PV.ids] at hp
    exact .agg (RepVs.move hg h hp)
  | _, _, .tup h, hp => by
    simp only [PV.ids] at hp
    exact .tup (RepVs.move hg h hp)
theorem RepVs.move {p : Nat → Bool} {m m' : Nm} {B0 : Nat} {w w' : World} (hg : Grows p m m' w w') : ∀ {x : List PV} {v : List Value}, RepVs m B0 w x v → idsL p x = true → RepVs m' B0 w' x v
  | _, _, .nil, _ => .nil
  | _, _, .cons h hs, hp => by
    simp only [idsL, Bool.and_eq_true] at hp
    exact .cons (RepV.move hg h hp.1) (RepVs.move hg hs hp.2)
end

/-! ### what an abstract state says -/
def RowsIs (ok : Nat → Prop) (w : World) (s : List SK) (l : List (Tup s)) (xs : List Value) : Prop := ∀ i x, l[i]? = some x → TupIs ok w s x ((xs.drop (i * s.length)).take s.length)
/-- The blocks of an object that is told by hand, as a value (that of a number of its own, j). -/
def fpV (v : Value) (k : Nat) : Prop := match v with
  | .tuple a => Value.int .i64 k ∈ a.toList
  | _ => False
def BlkIs (m : Nm) (B0 : Nat) (w : World) (i : Nat) : ABlk → Prop
  | .no => True
  | .box T cs => B0 ≤ m.b i ∧ ¬ m.F (m.b i) ∧ ∃ vs, RepVs m B0 w cs vs ∧ w.heap[m.b i]? = some (.cells vs.toArray T (0, 0))
  | .own fr T s l => ∃ xs, w.ownsRow B0 T s.length (m.v i) l.length xs ∧ RowsIs (okOf m B0 fr) w s l xs ∧ ∀ k, (m.v i).ownBlock = some k → ¬ m.F k
  | .mset l => B0 ≤ m.b i ∧ ¬ m.F (m.b i) ∧ ∃ es clock, w.heap[m.b i]? = some (.map es clock) ∧ es.toList.map (fun e => (e.key, e.val)) = l.map fun n => (Value.int .i64 n, Value.bool true)
  | .obj n x j => (∀ k, fpV (m.v j) k → B0 ≤ k ∧ k < w.heap.size ∧ ¬ m.F k) ∧ OIs n x B0 (m.b i) (fpV (m.v j)) m.F w
def blkOf (m : Nm) (i : Nat) : ABlk → Nat → Prop
  | .no => fun _ => False
  | .box _ _ => fun k => k = m.b i
  | .own _ _ _ _ => fun k => (m.v i).ownBlock = some k
  | .mset _ => fun k => k = m.b i
  | .obj _ _ j => fpV (m.v j)
/-- The world at a function's beginning, and blocks of it that stand. -/
structure Org extends World where
  kept : Nat → Option Obj
  gk : GK toWorld
/-- The blocks alone. -/
structure Heap (w0 : Org) (m : Nm) (σ : Nat → ABlk) (w : World) : Prop where
  blk : ∀ i, BlkIs m w0.heap.size w i (σ i)
  apart : ∀ i j k, i ≠ j → blkOf m i (σ i) k → blkOf m j (σ j) k → False
  flt : ∀ k, m.F k → k < w.heap.size
  below : Below w0.heap.size w0.toWorld w
  kept : ∀ k ob, w0.kept k = some ob → m.F k ∧ w.heap[k]? = some ob
structure Rep (w0 : Org) (N : Nat) (m : Nm) (s : AS) (a : Act) (w : World) : Prop where
  size : a.tmps.size = N
  nodef : a.defers = []
  get : ∀ t, RepV m w0.heap.size w (s.fr t) (a.tmps.getD t undef)
  heap : Heap w0 m s.σ w
theorem Rep.gk {w0 : Org} {N : Nat} {m : Nm} {s : AS} {a : Act} {w : World} (h : Rep w0 N m s a w) : GK w := w0.gk.below h.heap.below
/-- The world as it was below a place. -/
def cutW (w : World) (base : Nat) : World := { w with heap := w.heap.extract 0 base }
theorem Rep.gkc {w0 : Org} {N : Nat} {m : Nm} {s : AS} {a : Act} {w : World} (h : Rep w0 N m s a w) : GK (cutW w w0.heap.size) := by
  have hb := h.heap.below
  have hs := hb.size
  refine w0.gk.below ⟨hb.1, hb.2, hb.3, ?_, fun k hk => ?_⟩
  · show w0.heap.size ≤ (w.heap.extract 0 w0.heap.size).size
    rw [Array.size_extract]; omega
  · show (w.heap.extract 0 w0.heap.size)[k]? = _
    rw [Array.getElem?_extract, if_pos (by omega), Nat.zero_add]
    exact hb.block k hk
/-- An effect: the value of the slot, the blocks that are new, or told anew. -/
structure Eff where
  v : PV
  upd : List (Nat × ABlk)
def updσ (σ : Nat → ABlk) : List (Nat × ABlk) → Nat → ABlk
  | [] => σ
  | e :: r => updσ (fun k => bif Nat.beq k e.1 then e.2 else σ k) r
def updf (fr : Nat → PV) (d : Option Nat) (v : PV) : Nat → PV := match d with
  | some t => fun u => bif Nat.beq u t then v else fr u
  | none => fr
def AS.app (s : AS) (d : Option Nat) (E : Eff) : AS := ⟨updf s.fr d E.v, updσ s.σ E.upd⟩
/-- s' knows what s knows. -/
structure Le (s s' : AS) : Prop where
  fr : ∀ t, s.fr t = .un ∨ s'.fr t = s.fr t
  σ : ∀ i, s.σ i = .no ∨ s'.σ i = s.σ i
theorem Le.refl (s : AS) : Le s s := ⟨fun _ => .inr rfl, fun _ => .inr rfl⟩
theorem Rep.le {w0 : Org} {N : Nat} {m : Nm} {s s' : AS} {a : Act} {w : World} (h : Rep w0 N m s' a w) (hl : Le s s') : Rep w0 N m s a w := by
  refine ⟨h.size, h.nodef, fun t => ?_, ⟨fun i => ?_, fun i j k hij hi hj => ?_, h.heap.flt, h.heap.below, h.heap.kept⟩⟩
  · rcases hl.fr t with h1 | h1
    · rw [h1]; exact .un
    · rw [← h1]; exact h.get t
  · rcases hl.σ i with h1 | h1
    · rw [h1]; trivial
    · rw [← h1]; exact h.heap.blk i
  · rcases hl.σ i with h1 | h1
    · rw [h1] at hi; cases hi
    rcases hl.σ j with h2 | h2
    · rw [h2] at hj; cases hj
    rw [← h1] at hi
    rw [← h2] at hj
    exact h.heap.apart i j k hij hi hj
/-- Operands. -/
def AS.ev (s : AS) : Operand → PV
  | .tmp t => s.fr t
  | .const v => .v v
  | .func f => .fn f []
  | .global _ => .un
theorem Rep.ev {w0 : Org} {N : Nat} {m : Nm} {s : AS} {a : Act} {w : World} (h : Rep w0 N m s a w) (x : Operand) : RepV m w0.heap.size w (s.ev x) (a.eval x) := by
  cases x with
  | tmp t => exact h.get t
  | const v => exact .v
  | func f => exact .fn .nil
  | global g => exact .un
theorem updf_get {fr : Nat → PV} {d : Option Nat} {v : PV} {t : Nat} : updf fr d v t = if d = some t then v else fr t := by
  unfold updf
  cases d with
  | none => simp
  | some u =>
    by_cases h : t = u
    · subst h; simp
    · have hb : Nat.beq t u = false := by cases hq : Nat.beq t u with
        | true => exact absurd (Nat.eq_of_beq_eq_true hq) h
        | false => rfl
      simp [hb, Ne.symm h]
theorem put_size (a : Act) (d : Option Nat) (v : Value) : (a.put d v).tmps.size = a.tmps.size := by cases d <;> simp [Act.put]
theorem put_defers (a : Act) (d : Option Nat) (v : Value) : (a.put d v).defers = a.defers := by cases d <;> rfl
theorem put_get {a : Act} {d : Option Nat} {v : Value} {t : Nat} (h : ∀ u, d = some u → u < a.tmps.size) : (a.put d v).tmps.getD t undef = if d = some t then v else a.tmps.getD t undef := by
  cases d with
  | none => simp [Act.put]
  | some u =>
    have hu := h u rfl
    by_cases ht : u = t
    · subst ht; simp [Act.put, hu, Array.getD_eq_getD_getElem?]
    · simp [Act.put, ht, Array.getD_eq_getD_getElem?, Array.getElem?_setIfInBounds_ne ht]
def dOk (d : Option Nat) (N : Nat) : Bool := match d with
  | some t => Nat.blt t N
  | none => true
theorem dOk_lt {d : Option Nat} {N : Nat} (h : dOk d N = true) : ∀ u, d = some u → u < N := fun u hu => by
  subst hu
  exact Nat.le_of_ble_eq_true h
/-- A slot is filled; the blocks are told anew; what was told of the other slots stands. -/
theorem Rep.put {w0 : Org} {N : Nat} {m m' : Nm} {s : AS} {a : Act} {w w' : World} {p : Nat → Bool} {d : Option Nat} {E : Eff} {v : Value} (h : Rep w0 N m s a w) (hd : dOk d N = true) (hg : Grows p m m' w w')
    (hi : ∀ t, (s.fr t).ids p = true) (hv : RepV m' w0.heap.size w' E.v v) (hh : Heap w0 m' (updσ s.σ E.upd) w') : Rep w0 N m' (s.app d E) (a.put d v) w' := by
  refine ⟨by rw [put_size]; exact h.size, by rw [put_defers]; exact h.nodef, fun t => ?_, hh⟩
  show RepV m' w0.heap.size w' (updf s.fr d E.v t) _
  rw [updf_get, put_get (fun u hu => by rw [h.size]; exact dOk_lt hd u hu)]
  split
  · exact hv
  · exact RepV.move hg (h.get t) (hi t)
end Go.Proofs.YtaknikdbnfmlfaaDoor.Ex
/- An executor of translated code on abstract states, second part: operations that yield a value and turn nothing. -/
namespace Go.Proofs.YtaknikdbnfmlfaaDoor.Ex
open Go Go.RowKit
set_option linter.unusedVariables false

/-! ### lists of values -/
section
variable {m : Nm} {B0 : Nat} {w : World} {ps qs : List PV} {vs us : List Value}
theorem RepVs.len (h : RepVs m B0 w ps vs) : ps.length = vs.length := by
  induction ps generalizing vs with
  | nil => cases h; rfl
  | cons p ps ih => cases h with | cons h hs => simp [ih hs]
theorem RepVs.append (h : RepVs m B0 w ps vs) (h' : RepVs m B0 w qs us) : RepVs m B0 w (ps ++ qs) (vs ++ us) := by
  induction ps generalizing vs with
  | nil => cases h; exact h'
  | cons p ps ih => cases h with | cons h hs => exact .cons h (ih hs)
theorem RepVs.drop (h : RepVs m B0 w ps vs) (n : Nat) : RepVs m B0 w (ps.drop n) (vs.drop n) := by
  induction ps generalizing vs n with
  | nil => cases h; simpa using RepVs.nil
  | cons p ps ih =>
    cases h with
    | cons h hs =>
      cases n with
      | zero => exact .cons h hs
      | succ n => exact ih hs n
theorem RepVs.take (h : RepVs m B0 w ps vs) (n : Nat) : RepVs m B0 w (ps.take n) (vs.take n) := by
  induction ps generalizing vs n with
  | nil => cases h; simpa using RepVs.nil
  | cons p ps ih =>
    cases h with
    | cons h hs =>
      cases n with
      | zero => exact .nil
      | succ n => exact .cons h (ih hs n)
theorem RepVs.get {i : Nat} {p : PV} (h : RepVs m B0 w ps vs) (hp : ps[i]? = some p) : ∃ v, vs[i]? = some v ∧ RepV m B0 w p v := by
  induction ps generalizing vs i with
  | nil => simp at hp
  | cons q ps ih =>
    cases h with
    | cons h hs =>
      cases i with
      | zero => simp only [List.getElem?_cons_zero, Option.some.injEq] at hp; subst hp; exact ⟨_, rfl, h⟩
      | succ i => simpa using ih hs (by simpa using hp)
theorem RepVs.exact (l : List Value) : RepVs m B0 w (l.map .v) l := by
  induction l with
  | nil => exact .nil
  | cons v l ih => exact .cons .v ih
theorem RepVs.map {α : Type} {f : α → PV} {g : α → Value} (h : ∀ x, RepV m B0 w (f x) (g x)) (l : List α) : RepVs m B0 w (l.map f) (l.map g) := by
  induction l with
  | nil => exact .nil
  | cons x l ih => exact .cons (h x) ih
end
/-- A value's cells. -/
def PV.cells : PV → Option (List PV)
  | .agg cs => some cs
  | .v x => some (x.cells.toList.map .v)
  | .un => none
  | .tup _ => none
  | x => some [x]
theorem PV.cells_ok {m : Nm} {B0 : Nat} {w : World} {x : PV} {v : Value} {cs : List PV} (h : RepV m B0 w x v) (hc : x.cells = some cs) : RepVs m B0 w cs v.cells.toList := by
  cases h with
  | un => cases hc
  | tup h => cases hc
  | v => simp only [PV.cells, Option.some.injEq] at hc; subst hc; exact RepVs.exact _
  | agg h => simp only [PV.cells, Option.some.injEq] at hc; subst hc; simpa [Value.cells] using h
  | row h =>
    simp only [PV.cells, Option.some.injEq] at hc
    subst hc
    have h0 := h
    simp only [SKIs] at h
    obtain ⟨A, c, rfl, _⟩ := h
    exact .cons (.row h0) .nil
  | own h => simp only [PV.cells, Option.some.injEq] at hc; subst hc; exact .cons (.own h) .nil
  | ptr => simp only [PV.cells, Option.some.injEq] at hc; subst hc; exact .cons .ptr .nil
  | rptr h => simp only [PV.cells, Option.some.injEq] at hc; subst hc; exact .cons (.rptr h) .nil
  | eptr h h0 h1 => simp only [PV.cells, Option.some.injEq] at hc; subst hc; exact .cons (.eptr h h0 h1) .nil
  | fn h => simp only [PV.cells, Option.some.injEq] at hc; subst hc; exact .cons (.fn h) .nil
  | ocut h h0 h1 => simp only [PV.cells, Option.some.injEq] at hc; subst hc; exact .cons (.ocut h h0 h1) .nil
  | prow h h1 h2 => simp only [PV.cells, Option.some.injEq] at hc; subst hc; exact .cons (.prow h h1 h2) .nil
  | pcel h h1 => simp only [PV.cells, Option.some.injEq] at hc; subst hc; exact .cons (.pcel h h1) .nil
  | rmap h h1 h2 h3 h4 => simp only [PV.cells, Option.some.injEq] at hc; subst hc; exact .cons (.rmap h h1 h2 h3 h4) .nil
  | mp => simp only [PV.cells, Option.some.injEq] at hc; subst hc; exact .cons .mp .nil
/-- A value of one cell. -/
def PV.one : PV → Bool
  | .v x => x.oneCell'
  | .un => false
  | .agg _ => false
  | .tup _ => false
  | _ => true
theorem PV.one_ok {m : Nm} {B0 : Nat} {w : World} {x : PV} {v : Value} (h : RepV m B0 w x v) (hc : x.one = true) : v.oneCell' = true := by
  cases h with
  | un => cases hc
  | tup h => cases hc
  | agg h => cases hc
  | v => exact hc
  | row h =>
    simp only [SKIs] at h
    obtain ⟨A, c, rfl, _⟩ := h
    rfl
  | own h => rfl
  | ptr => rfl
  | rptr h => rfl
  | eptr h h0 h1 => rfl
  | prow h h1 h2 => rfl
  | pcel h h1 => rfl
  | rmap h h1 h2 h3 h4 => rfl
  | mp => rfl
  | ocut h h0 h1 => rfl
  | fn h => rfl

/-! ### types -/
def aggB (P : Program) (t : TypeId) : Option Bool := match P.underlying t with
  | some (.struct _) => some true
  | some (.array _ _) => some true
  | some _ => some false
  | none => none
theorem aggB_ok {P : Program} {t : TypeId} {b : Bool} (h : aggB P t = some b) (w : World) : (isAgg t).run P w = .ok b w := by
  unfold aggB at h
  cases hu : P.underlying t with
  | none => rw [hu] at h; cases h
  | some d =>
    rw [hu] at h
    unfold isAgg
    rw [Sem.run_bind, run_underlying hu]
    cases d <;> simp_all <;> rfl
def sizeB (P : Program) (t : TypeId) : Option Nat := (P.info? t).map (·.size)
theorem sizeB_ok {P : Program} {t : TypeId} {n : Nat} (h : sizeB P t = some n) (w : World) : (sizeOf t).run P w = .ok n w := by
  unfold sizeB at h
  cases hi : P.info? t with
  | none => rw [hi] at h; cases h
  | some i =>
    rw [hi] at h
    simp only [Option.map_some, Option.some.injEq] at h
    simp [sizeOf, typeInfo, hi, h]
def zeroB (P : Program) (t : TypeId) : Option Value := (P.info? t).bind (·.zero)
theorem zeroB_ok {P : Program} {t : TypeId} {v : Value} (h : zeroB P t = some v) (w : World) : (zeroValue t).run P w = .ok v w := by
  unfold zeroB at h
  cases hi : P.info? t with
  | none => rw [hi] at h; cases h
  | some i =>
    rw [hi] at h
    simp only [Option.bind_some] at h
    simp [zeroValue, typeInfo, hi, h]
/-- A part of a struct. -/
def partB (P : Program) (t : TypeId) (cs : List PV) (off : Nat) : Option PV := match aggB P t with
  | some true => match sizeB P t with
    | some n => bif Nat.ble (off + n) cs.length then some (.agg ((cs.drop off).take n)) else none
    | none => none
  | some false => cs[off]?
  | none => none
theorem partB_ok {P : Program} {m : Nm} {B0 : Nat} {w : World} {t : TypeId} {cs : List PV} {vs : List Value} {off : Nat} {p : PV} (h : RepVs m B0 w cs vs) (hp : partB P t cs off = some p) (W : World) : ∃ v, (part t vs.toArray off).run P W = .ok v W ∧ RepV m B0 w p v := by
  unfold partB at hp
  unfold part
  cases ha : aggB P t with
  | none => rw [ha] at hp; cases hp
  | some b =>
    rw [ha] at hp
    simp only [Sem.run_bind, aggB_ok ha, Result.andThen_ok]
    cases b with
    | true =>
      simp only at hp
      cases hs : sizeB P t with
      | none => rw [hs] at hp; cases hp
      | some n =>
        rw [hs] at hp
        cases hble : Nat.ble (off + n) cs.length with
        | false => simp [hble] at hp
        | true =>
        simp only [hble, cond_true, Option.some.injEq] at hp
        subst hp
        refine ⟨_, by simp only [if_true, Sem.run_bind, sizeB_ok hs, Result.andThen_ok, Sem.run_pure]; rfl, ?_⟩
        have := RepV.agg ((h.drop off).take n)
        rw [List.extract_toArray]
        simpa [List.extract_eq_take_drop] using this
    | false =>
      simp only at hp
      obtain ⟨v, hv, hr⟩ := h.get hp
      refine ⟨v, ?_, hr⟩
      simp [hv]
end Go.Proofs.YtaknikdbnfmlfaaDoor.Ex
/- An executor of translated code on abstract states, third part: the step of an operation, and operations that turn nothing. -/
namespace Go.Proofs.YtaknikdbnfmlfaaDoor.Ex
open Go Go.RowKit
set_option linter.unusedVariables false
set_option linter.unusedSimpArgs false

/-- The numbers that an operation may give to what it makes: eight from id0 on. -/
def old (id0 : Nat) (i : Nat) : Bool := Nat.blt i id0 || Nat.ble (id0 + 8) i
structure Fresh (id0 : Nat) (s : AS) : Prop where
  fr : ∀ t, (s.fr t).ids (old id0) = true
  σ : ∀ i, (s.σ i).ids (old id0) = true
  no : ∀ i, old id0 i = false → s.σ i = .no
/-- What an operation does, from a state that knows what S knows. -/
def Step (P : Program) (w0 : Org) (N : Nat) (S : AS) (id0 : Nat) (o : Oper) (E : Eff) : Prop :=
  ∀ (S' : AS) (m : Nm) (a : Act) (w : World), Le S S' → Fresh id0 S' → Rep w0 N m S' a w → ∀ (K : Act → World → Prop) (Q : Exit → Act → World → Prop),
    (∀ m' w' v, Grows (old id0) m m' w w' → Heap w0 m' (updσ S'.σ E.upd) w' → RepV m' w0.heap.size w' E.v v → K (a.put o.dst v) w') → o.wp P a w K Q
section
variable {P : Program} {w0 : Org} {N : Nat} {S : AS} {id0 : Nat} {o : Oper} {E : Eff}
theorem Step.value {p : PV} (h : ∀ m a w, Rep w0 N m S a w → ∃ v, (execOp a.eval o).run P w = .ok (.value v) w ∧ RepV m w0.heap.size w p v) : Step P w0 N S id0 o ⟨p, []⟩ := by
  intro S' m a w hl hf hr K Q hK
  obtain ⟨v, hrun, hv⟩ := h m a w (hr.le hl)
  unfold Oper.wp
  rw [hrun, Oper.upon_value]
  exact hK m w v (Grows.refl _ _ _) hr.heap hv
end
/-- An operation of the executor is sound: whatever it hands on is what the machine does. -/
def Sound (P : Program) (w0 : Org) (N : Nat) (S : AS) (id0 : Nat) (o : Oper) {ρ : Type} (κ : Eff → Option ρ) (r : ρ) : Prop := ∃ E, κ E = some r ∧ Step P w0 N S id0 o E
def SoundV (P : Program) (w0 : Org) (N : Nat) (S : AS) (o : Oper) {ρ : Type} (κ : PV → Option ρ) (r : ρ) : Prop := ∃ p, κ p = some r ∧ ∀ m a w, Rep w0 N m S a w → ∃ v, (execOp a.eval o).run P w = .ok (.value v) w ∧ RepV m w0.heap.size w p v
theorem SoundV.sound {P : Program} {w0 : Org} {N : Nat} {S : AS} {id0 : Nat} {o : Oper} {ρ : Type} {κ : Eff → Option ρ} {r : ρ} (h : SoundV P w0 N S o (fun p => κ ⟨p, []⟩) r) : Sound P w0 N S id0 o κ r := by
  obtain ⟨p, h1, h2⟩ := h
  exact ⟨_, h1, Step.value h2⟩
theorem cond_some {α : Type} {b : Bool} {x y : Option α} {r : α} (h : (bif b then x else y) = some r) : b = true ∧ x = some r ∨ b = false ∧ y = some r := by cases b <;> simp_all

/-! ### whole numbers, strings, bools -/
section
variable {ρ : Type}
def binI (op : BinOp) (k : IntKind) (a b : Int) (κ : PV → Option ρ) : Option ρ := match op with
  | .lss => κ (.v (.bool (decide (a < b))))
  | .leq => κ (.v (.bool (decide (a ≤ b))))
  | .gtr => κ (.v (.bool (decide (b < a))))
  | .geq => κ (.v (.bool (decide (b ≤ a))))
  | .eql => κ (.v (.bool (decide (a = b))))
  | .neq => κ (.v (.bool (!decide (a = b))))
  | .add => κ (.v (.int k (k.wrap (a + b))))
  | .sub => κ (.v (.int k (k.wrap (a - b))))
  | .mul => κ (.v (.int k (k.wrap (a * b))))
  | .quo => bif decide (b = 0) then none else κ (.v (.int k (k.wrap (a.tdiv b))))
  | .rem => bif decide (b = 0) then none else κ (.v (.int k (a.tmod b)))
  | _ => none
def binS (op : BinOp) (a b : ByteArray) (κ : PV → Option ρ) : Option ρ := match op with
  | .eql => κ (.v (.bool (a.data.toList == b.data.toList)))
  | .neq => κ (.v (.bool (!(a.data.toList == b.data.toList))))
  | .add => bif decide (a.size + b.size ≤ 9223372036854775807) then κ (.v (.string (a ++ b))) else none
  | _ => none
end
/-- '==' of data without rows, as one Bool. -/
def eqLeaf : TypeDesc → PV → PV → Option Bool
  | .bool, .v (.bool a), .v (.bool b) => some (a == b)
  | .int _, .v (.int k a), .v (.int k' b) => bif decide (k = k') then some (a == b) else none
  | .string, .v (.string a), .v (.string b) => some (a.data.toList == b.data.toList)
  | _, _, _ => none
mutual
def eqB (P : Program) : Nat → TypeId → PV → PV → Option Bool
  | 0, _, _, _ => none
  | d + 1, t, x, y => match P.underlying t with
    | some (.struct fs) => match x, y with
      | .agg xs, .agg ys => bif P.stoodInHeld t then none else eqFs P d fs.toList xs ys
      | _, _ => none
    | some (.array n e) => match x, y with
      | .agg xs, .agg ys => match sizeB P e with
        | some sz => eqAs P d n e sz 0 xs ys
        | none => none
      | _, _ => none
    | some k => eqLeaf k x y
    | none => none
def eqFs (P : Program) : Nat → List Field → List PV → List PV → Option Bool
  | 0, _, _, _ => none
  | d + 1, fs, xs, ys => match fs with
    | [] => some true
    | f :: r => match partB P f.type xs f.offset, partB P f.type ys f.offset with
      | some a, some b => bif f.name == "_" then none else match eqB P d f.type a b with
        | some c => match r with
          | [] => some c
          | f' :: r' => match eqFs P d (f' :: r') xs ys with
            | some c' => some (c && c')
            | none => none
        | none => none
      | _, _ => none
def eqAs (P : Program) : Nat → Nat → TypeId → Nat → Nat → List PV → List PV → Option Bool
  | 0, _, _, _, _, _, _ => none
  | d + 1, n, e, sz, i, xs, ys => match n with
    | 0 => some true
    | n + 1 => match partB P e xs (i * sz), partB P e ys (i * sz) with
      | some a, some b => match eqB P d e a b with
        | some c => match n with
          | 0 => some c
          | n' + 1 => match eqAs P d (n' + 1) e sz (i + 1) xs ys with
            | some c' => some (c && c')
            | none => none
        | none => none
      | _, _ => none
end
/-! ### soundness -/
def Op.eqElems (D : Nat) (xs ys : Array Value) (e : TypeId) (sz : Nat) : Nat → Nat → Sem Bool
  | _, 0 => pure true
  | i, n + 1 => do
    let a ← part e xs (i * sz)
    let b ← part e ys (i * sz)
    let r ← Go.Op.equalIn D e a b
    if (!r) = true then pure false else Op.eqElems D xs ys e sz (i + 1) n
theorem run_equalIn_array {P : Program} (w : World) (D : Nat) (t e : TypeId) (n sz : Nat) (xs ys : Array Value) (ht : P.underlying t = some (.array n e)) (hs : sizeB P e = some sz) :
    (Go.Op.equalIn (D + 1) t (.agg xs) (.agg ys)).run P w = (Op.eqElems D xs ys e sz 0 n).run P w := by
  simp only [Go.Op.equalIn, Sem.run_bind, run_underlying ht, Result.andThen_ok, sizeB_ok hs]
  simp only [Std.Legacy.Range.forIn_eq_forIn_range', Std.Legacy.Range.size, Nat.sub_zero, Nat.add_sub_cancel, Nat.div_one]
  clear ht
  generalize 0 = i
  induction n generalizing i w with
  | zero => simp [Op.eqElems]
  | succ n ih =>
    rw [List.range'_succ, List.forIn_cons]
    simp only [Op.eqElems, Sem.run_bind]
    generalize (part e xs (i * sz)).run P w = r1
    cases r1 with
    | halt x w1 => simp [Result.andThen]
    | ok a w1 =>
      simp only [Result.andThen_ok]
      generalize (part e ys (i * sz)).run P w1 = r2
      cases r2 with
      | halt x w1 => simp [Result.andThen]
      | ok b w2 =>
        simp only [Result.andThen_ok]
        generalize (Go.Op.equalIn D e a b).run P w2 = r3
        cases r3 with
        | halt x w1 => simp [Result.andThen]
        | ok c w3 =>
          cases c
          · simp
          · simpa using ih w3 (i + 1)
theorem eqLeaf_ok {P : Program} {m : Nm} {B0 : Nat} {w : World} {d : TypeDesc} {t : TypeId} {x y : PV} {vx vy : Value} {c : Bool} (hu : P.underlying t = some d) (h : eqLeaf d x y = some c) (hx : RepV m B0 w x vx) (hy : RepV m B0 w y vy) (D : Nat) (W : World) : (Go.Op.equalIn (D + 1) t vx vy).run P W = .ok c W := by
  unfold eqLeaf at h
  split at h
  · cases hx; cases hy; cases h
    exact run_equalIn_bool' W D t _ _ hu
  · cases hx; cases hy
    rcases cond_some h with ⟨h1, h2⟩ | ⟨_, h2⟩
    · cases h2
      have := of_decide_eq_true h1
      subst this
      exact run_equalIn_int W D t _ _ _ _ hu
    · cases h2
  · cases hx; cases hy; cases h
    simp only [← ByteArray.toList_eq]
    exact run_equalIn_string W D t _ _ hu
  · cases h
theorem run_eqFields_last {P : Program} {D : Nat} {xs ys : Array Value} {f : Field} {a b : Value} {c : Bool} {W : World} (hn : (f.name == "_") = false) (ha : (part f.type xs f.offset).run P W = .ok a W) (hb : (part f.type ys f.offset).run P W = .ok b W) (he : (Go.Op.equalIn D f.type a b).run P W = .ok c W) : (Go.Op.eqFields D xs ys [f]).run P W = .ok c W := by
  have hn' : f.name ≠ "_" := by simpa using hn
  simp only [Go.Op.eqFields, if_pos hn', Sem.run_bind, ha, hb, he, Result.andThen_ok]
  cases c <;> simp
theorem run_eqFields_cons {P : Program} {D : Nat} {xs ys : Array Value} {f : Field} {fs : List Field} {a b : Value} {c c' : Bool} {W : World} (hn : (f.name == "_") = false) (ha : (part f.type xs f.offset).run P W = .ok a W) (hb : (part f.type ys f.offset).run P W = .ok b W) (he : (Go.Op.equalIn D f.type a b).run P W = .ok c W) (hr : (Go.Op.eqFields D xs ys fs).run P W = .ok c' W) : (Go.Op.eqFields D xs ys (f :: fs)).run P W = .ok (c && c') W := by
  have hn' : f.name ≠ "_" := by simpa using hn
  rw [Go.Op.eqFields]
  simp only [if_pos hn', Sem.run_bind, ha, hb, he, Result.andThen_ok]
  cases c
  · simp
  · simpa using hr
mutual
theorem eqB_ok {P : Program} {m : Nm} {B0 : Nat} {w : World} : ∀ {d : Nat} {t : TypeId} {x y : PV} {vx vy : Value} {c : Bool}, eqB P d t x y = some c → RepV m B0 w x vx → RepV m B0 w y vy → ∀ (D : Nat), d ≤ D → ∀ W, (Go.Op.equalIn D t vx vy).run P W = .ok c W
  | 0, _, _, _, _, _, _, h, _, _, _, _, _ => by simp [eqB] at h
  | d + 1, t, x, y, vx, vy, c, h, hx, hy, D, hD, W => by
    obtain ⟨D, rfl⟩ : ∃ D', D = D' + 1 := ⟨D - 1, by omega⟩
    unfold eqB at h
    split at h
    · rename_i fs hu
      split at h
      · rename_i xs ys
        cases hx with | agg hx => cases hy with | agg hy =>
        rcases cond_some h with ⟨_, h2⟩ | ⟨h1, h2⟩
        · cases h2
        · have hf : P.fieldsOf t = fs := by simp [Program.fieldsOf, hu]
          rw [run_equalIn_struct W D t _ _ (by rw [hf]; exact hu) h1, hf]
          exact eqFs_ok h2 hx hy D (by omega) W
      · cases h
    · rename_i n e hu
      split at h
      · rename_i xs ys
        cases hx with | agg hx => cases hy with | agg hy =>
        split at h
        · rename_i sz hs
          rw [run_equalIn_array W D t e n sz _ _ hu hs]
          exact eqAs_ok h hx hy D (by omega) W
        · cases h
      · cases h
    · rename_i k hn1 hn2 hu
      exact eqLeaf_ok hu h hx hy D W
    · cases h
theorem eqFs_ok {P : Program} {m : Nm} {B0 : Nat} {w : World} : ∀ {d : Nat} {fs : List Field} {xs ys : List PV} {vs us : List Value} {c : Bool}, eqFs P d fs xs ys = some c → RepVs m B0 w xs vs → RepVs m B0 w ys us → ∀ (D : Nat), d ≤ D → ∀ W, (Go.Op.eqFields D vs.toArray us.toArray fs).run P W = .ok c W
  | 0, _, _, _, _, _, _, h, _, _, _, _, _ => by simp [eqFs] at h
  | d + 1, fs, xs, ys, vs, us, c, h, hx, hy, D, hD, W => by
    unfold eqFs at h
    split at h
    · cases h; simp [Go.Op.eqFields]
    · rename_i f r
      split at h
      · rename_i a b ha hb
        rcases cond_some h with ⟨_, h2⟩ | ⟨hn, h⟩
        · cases h2
        obtain ⟨va, hra, hva⟩ := partB_ok hx ha W
        obtain ⟨vb, hrb, hvb⟩ := partB_ok hy hb W
        split at h
        · rename_i c1 hc1
          have he := eqB_ok hc1 hva hvb D (by omega) W
          split at h
          · cases h
            exact run_eqFields_last hn hra hrb he
          · split at h
            · rename_i c2 hc2
              cases h
              exact run_eqFields_cons hn hra hrb he (eqFs_ok hc2 hx hy D (by omega) W)
            · cases h
        · cases h
      · cases h
theorem eqAs_ok {P : Program} {m : Nm} {B0 : Nat} {w : World} : ∀ {d n : Nat} {e : TypeId} {sz i : Nat} {xs ys : List PV} {vs us : List Value} {c : Bool}, eqAs P d n e sz i xs ys = some c → RepVs m B0 w xs vs → RepVs m B0 w ys us → ∀ (D : Nat), d ≤ D → ∀ W, (Op.eqElems D vs.toArray us.toArray e sz i n).run P W = .ok c W
  | 0, _, _, _, _, _, _, _, _, _, h, _, _, _, _, _ => by simp [eqAs] at h
  | d + 1, n, e, sz, i, xs, ys, vs, us, c, h, hx, hy, D, hD, W => by
    unfold eqAs at h
    split at h
    · cases h; simp [Op.eqElems]
    · rename_i n
      split at h
      · rename_i a b ha hb
        obtain ⟨va, hra, hva⟩ := partB_ok hx ha W
        obtain ⟨vb, hrb, hvb⟩ := partB_ok hy hb W
        split at h
        · rename_i c1 hc1
          have he := eqB_ok hc1 hva hvb D (by omega) W
          split at h
          · cases h
            simp only [Op.eqElems, Sem.run_bind, hra, hrb, he, Result.andThen_ok]
            cases c <;> simp
          · rename_i n' 
            split at h
            · rename_i c2 hc2
              cases h
              have hr := eqAs_ok hc2 hx hy D (by omega) W
              rw [Op.eqElems]
              simp only [Sem.run_bind, hra, hrb, he, Result.andThen_ok]
              cases c1
              · simp
              · simpa using hr
            · cases h
        · cases h
      · cases h
end
end Go.Proofs.YtaknikdbnfmlfaaDoor.Ex
/- An executor of translated code on abstract states, fourth part: operations that yield a value and turn nothing. -/
namespace Go.Proofs.YtaknikdbnfmlfaaDoor.Ex
open Go Go.RowKit
set_option linter.unusedVariables false
set_option linter.unusedSimpArgs false

def mn (a b : Int) : Int := if b < a then b else a
def mx (a b : Int) : Int := if a < b then b else a
section
variable {P : Program} {w0 : Org} {w : World} {N : Nat} {S : AS} {o : Oper} {ρ : Type} {r : ρ} {ev : Operand → Value} {v : Value}
theorem run_of {s : Sem Value} (hs : execOp ev o = (do pure (Next.value (← s)))) (h : s.run P w = .ok v w) : (execOp ev o).run P w = .ok (.value v) w := by
  rw [hs]
  simp [Sem.run_bind, h]
theorem ev_v {m : Nm} {S : AS} {a : Act} {x : Operand} {y : Value} (hr : Rep w0 N m S a w) (h : S.ev x = .v y) : a.eval x = y := by
  have h1 := hr.ev x
  rw [h] at h1
  generalize a.eval x = z at h1
  cases h1
  rfl
theorem run_of_w {w1 : World} {s : Sem Value} (hs : execOp ev o = (do pure (Next.value (← s)))) (h : s.run P w = .ok v w1) : (execOp ev o).run P w = .ok (.value v) w1 := by
  rw [hs]
  simp [Sem.run_bind, h]
/-! move, assign, pick -/
theorem move_ok {x : Operand} {κ : PV → Option ρ} (ho : o.op = .move x ∨ o.op = .assign x) (h : κ (S.ev x) = some r) : SoundV P w0 N S o κ r :=
  ⟨_, h, fun m a w hr => ⟨a.eval x, by unfold execOp; rcases ho with ho | ho <;> simp only [ho] <;> rfl, hr.ev x⟩⟩
def opPick (S : AS) (c a b : Operand) (κ : PV → Option ρ) : Option ρ := match S.ev c with
  | .v (.bool t) => bif t then κ (S.ev a) else κ (S.ev b)
  | _ => none
theorem pick_ok {c x y : Operand} {κ : PV → Option ρ} (ho : o.op = .pick c x y) (h : opPick S c x y κ = some r) : SoundV P w0 N S o κ r := by
  unfold opPick at h
  split at h
  · rename_i t hc
    have hcv : ∀ m a w, Rep w0 N m S a w → a.eval c = .bool t := fun m a w hr => ev_v hr hc
    rcases cond_some h with ⟨rfl, h⟩ | ⟨rfl, h⟩
    · exact ⟨_, h, fun m a w hr => ⟨a.eval x, by unfold execOp; simp only [ho, hcv m a w hr]; rfl, hr.ev x⟩⟩
    · exact ⟨_, h, fun m a w hr => ⟨a.eval y, by unfold execOp; simp only [ho, hcv m a w hr]; rfl, hr.ev y⟩⟩
  · cases h
/-! binary operations -/
def opBin (P : Program) (op : BinOp) (t : TypeId) (x y : PV) (κ : PV → Option ρ) : Option ρ := match x, y with
  | .v (.int k a), .v (.int k' b) => match op with
    | .shr => bif decide (b < 0) then none else κ (.v (.int k (a.fdiv (2 ^ (min b.toNat k.bits)))))
    | .shl => none
    | op => bif decide (k = k') then binI op k a b κ else none
  | .v (.string a), .v (.string b) => binS op a b κ
  | x, y => bif P.eqGuardType P.depth t then none else match op with
    | .eql => match eqB P 40 t x y with
      | some c => κ (.v (.bool c))
      | none => none
    | .neq => match eqB P 40 t x y with
      | some c => κ (.v (.bool (!c)))
      | none => none
    | _ => none
theorem run_bin {op : BinOp} {x y : Operand} {t yt : TypeId} {vx vy : Value} (ho : o.op = .binOp op t x y yt) (hx : ev x = vx) (hy : ev y = vy) (hg : (eqGuard op t x y vx vy).run P w = .ok () w) (h : (binOp op t vx vy).run P w = .ok v w) : (execOp ev o).run P w = .ok (.value v) w := by
  unfold execOp
  simp only [ho, hx, hy]
  simp [Sem.run_bind, hg, h]
theorem guard_int {op : BinOp} {x y : Operand} {t : TypeId} {k k' : IntKind} {a b : Int} : (eqGuard op t x y (.int k a) (.int k' b)).run P w = .ok () w := by
  unfold eqGuard
  cases op <;> simp
theorem guard_string {op : BinOp} {x y : Operand} {t : TypeId} {a b : ByteArray} : (eqGuard op t x y (.string a) (.string b)).run P w = .ok () w := by
  unfold eqGuard
  cases op <;> simp
theorem binI_ok {op : BinOp} {t : TypeId} {k : IntKind} {a b : Int} {κ : PV → Option ρ} (h : binI op k a b κ = some r) : ∃ v, κ (.v v) = some r ∧ ∀ w, (binOp op t (.int k a) (.int k b)).run P w = .ok v w := by
  unfold binI at h
  cases op <;> simp only at h
  case quo | rem =>
    rcases cond_some h with ⟨_, h2⟩ | ⟨h1, h2⟩
    · cases h2
    · exact ⟨_, h2, fun w => by have := of_decide_eq_false h1; simp [binOp, Op.intDiv, this]⟩
  all_goals first
    | (cases h; done)
    | (refine ⟨_, h, fun w => ?_⟩; simp [binOp, Op.intArith]; done)
    | (refine ⟨_, h, fun w => ?_⟩; simp [binOp, Op.intCmp]; done)
    | (refine ⟨_, h, fun w => ?_⟩; simp [binOp, Op.intCmp]; rfl)
    | (refine ⟨_, h, fun w => ?_⟩; simp [binOp, Op.intCmp, bne]; rfl)
theorem binS_ok {op : BinOp} {t : TypeId} {a b : ByteArray} {κ : PV → Option ρ} (h : binS op a b κ = some r) : ∃ v, κ (.v v) = some r ∧ ∀ w, (binOp op t (.string a) (.string b)).run P w = .ok v w := by
  unfold binS at h
  cases op <;> simp only at h <;> first
    | cases h
    | exact ⟨_, h, fun w => by simp [binOp, Op.stringOp, ByteArray.toList_eq]⟩
    | skip
  rcases cond_some h with ⟨h1, h2⟩ | ⟨_, h2⟩
  · refine ⟨_, h2, fun w => ?_⟩
    have := of_decide_eq_true h1
    have h3 : ¬ (((a.size + b.size : Nat) : Int) > IntKind.i64.max) := by simp [IntKind.max, IntKind.signed, IntKind.bits]; omega
    simp only [binOp, Op.stringOp]
    rw [if_neg h3]
    rfl
  · cases h2
theorem eqGuard_ok {m : Nm} {B0 : Nat} {op : BinOp} {ox oy : Operand} {t : TypeId} {x y : PV} {vx vy : Value} {c : Bool} (hg : P.eqGuardType P.depth t = false) (h : eqB P 40 t x y = some c) (hx : RepV m B0 w x vx) (hy : RepV m B0 w y vy) (W : World) : (eqGuard op t ox oy vx vy).run P W = .ok () W := by
  unfold eqB at h
  have agg : ∀ xs ys, (eqGuard op t ox oy (.agg xs) (.agg ys)).run P W = .ok () W := fun xs ys => by
    unfold eqGuard
    cases op <;> simp [program, Sem.run_bind, Sem.run, hg]
  split at h
  · split at h
    · cases hx; cases hy; exact agg _ _
    · cases h
  · split at h
    · cases hx; cases hy; exact agg _ _
    · cases h
  · unfold eqLeaf at h
    split at h
    · cases hx; cases hy; unfold eqGuard; cases op <;> simp
    · cases hx; cases hy; unfold eqGuard; cases op <;> simp
    · cases hx; cases hy; unfold eqGuard; cases op <;> simp
    · cases h
  · cases h
theorem eqB_bin {m : Nm} {B0 : Nat} {t : TypeId} {x y : PV} {vx vy : Value} {c : Bool} (hn1 : ∀ k a k' b, x = .v (.int k a) → y = .v (.int k' b) → False) (hn2 : ∀ a b, x = .v (.string a) → y = .v (.string b) → False) (h : eqB P 40 t x y = some c) (hx : RepV m B0 w x vx) (hy : RepV m B0 w y vy) {W : World} (he : (Go.Op.equal t vx vy).run P W = .ok c W) :
    (binOp .eql t vx vy).run P W = .ok (.bool c) W ∧ (binOp .neq t vx vy).run P W = .ok (.bool (!c)) W := by
  unfold eqB at h
  split at h
  · split at h
    · cases hx; cases hy; simp [binOp, Sem.run_bind, he]
    · cases h
  · split at h
    · cases hx; cases hy; simp [binOp, Sem.run_bind, he]
    · cases h
  · unfold eqLeaf at h
    split at h
    · cases hx; cases hy; simp [binOp, Sem.run_bind, he]
    · exact (hn1 _ _ _ _ rfl rfl).elim
    · exact (hn2 _ _ rfl rfl).elim
    · cases h
  · cases h
theorem bin_ok {op : BinOp} {x y : Operand} {t yt : TypeId} {κ : PV → Option ρ} (ho : o.op = .binOp op t x y yt) (h : opBin P op t (S.ev x) (S.ev y) κ = some r) : SoundV P w0 N S o κ r := by
  unfold opBin at h
  split at h
  · rename_i k a k' b hx hy
    have hxv : ∀ m ac w, Rep w0 N m S ac w → ac.eval x = .int k a ∧ ac.eval y = .int k' b := fun m ac w hr => ⟨ev_v hr hx, ev_v hr hy⟩
    split at h
    · rcases cond_some h with ⟨_, h2⟩ | ⟨h1, h2⟩
      · cases h2
      · have hb := of_decide_eq_false h1
        exact ⟨_, h2, fun m ac w hr => ⟨_, run_bin ho (hxv m ac w hr).1 (hxv m ac w hr).2 guard_int (by simp only [binOp, Op.shift, if_neg hb]; rfl), .v⟩⟩
    · cases h
    · rename_i hs1 hs2
      rcases cond_some h with ⟨h1, h2⟩ | ⟨_, h2⟩
      · have := of_decide_eq_true h1
        subst this
        obtain ⟨v, hv1, hv2⟩ := binI_ok (P := P) (t := t) h2
        exact ⟨_, hv1, fun m ac w hr => ⟨v, run_bin ho (hxv m ac w hr).1 (hxv m ac w hr).2 guard_int (hv2 w), .v⟩⟩
      · cases h2
  · rename_i a b hx hy
    obtain ⟨v, hv1, hv2⟩ := binS_ok (P := P) (t := t) h
    refine ⟨_, hv1, fun m ac w hr => ?_⟩
    exact ⟨v, run_bin ho (ev_v hr hx) (ev_v hr hy) guard_string (hv2 w), .v⟩
  · rename_i hn1 hn2
    rcases cond_some h with ⟨_, h2⟩ | ⟨hg, h⟩
    · cases h2
    have guard : ∀ {op : BinOp} {c : Bool}, eqB P 40 t (S.ev x) (S.ev y) = some c → ∀ m ac w, Rep w0 N m S ac w → (eqGuard op t x y (ac.eval x) (ac.eval y)).run P w = .ok () w := fun hc m ac w hr => eqGuard_ok hg hc (hr.ev x) (hr.ev y) w
    have key : ∀ {c : Bool}, eqB P 40 t (S.ev x) (S.ev y) = some c → ∀ m ac w, Rep w0 N m S ac w → (Go.Op.equal t (ac.eval x) (ac.eval y)).run P w = .ok c w := fun hc m ac w hr => eqB_ok hc (hr.ev x) (hr.ev y) 10000 (by decide) w
    split at h
    · split at h
      · rename_i c hc
        refine ⟨_, h, fun m ac w hr => ⟨_, run_bin ho rfl rfl (guard hc m ac w hr) ?_, .v⟩⟩
        exact (eqB_bin hn1 hn2 hc (hr.ev x) (hr.ev y) (key hc m ac w hr)).1
      · cases h
    · split at h
      · rename_i c hc
        refine ⟨_, h, fun m ac w hr => ⟨_, run_bin ho rfl rfl (guard hc m ac w hr) ?_, .v⟩⟩
        exact (eqB_bin hn1 hn2 hc (hr.ev x) (hr.ev y) (key hc m ac w hr)).2
      · cases h
    · cases h
end
end Go.Proofs.YtaknikdbnfmlfaaDoor.Ex
