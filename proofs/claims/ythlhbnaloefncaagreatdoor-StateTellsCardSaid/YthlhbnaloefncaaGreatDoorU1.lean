/- Part 1 of what the statements' rows lean on: the executor, the functions' trees, and what they come to in plain words. -/
import Derived.Test.YthlhbnaloefncaaGreatDoorProg
import Derived.Below
import Derived.Maps.RangeRun
import Derived.WalkKit
import Derived.KernelRfl
import Derived.RowKit
import Derived.Laws.AppendOwn
import Derived.Laws.OwnMore
import Derived.Deep.MidRow
import Derived.Laws.StructEq
import Derived.Laws.IdiomCopy
import Derived.Laws.Slices
import Derived.Maps.AppendAt
import Derived.Shelf.Strings.Search1
import Derived.Shelf.Strings.Search2
import Derived.Shelf.Strings.Search3
import Derived.Shelf.Strings.Cut
import Derived.Shelf.Strings.Count
import Derived.Shelf.LaysM
import Derived.Shelf.Strings.Shaped
import Derived.Shelf.Sort.Plain
import Derived.Shelf.Strings.Prefix
import Derived.Shelf.Strings.Split
import Derived.Shelf.Unicode.DecodeSlow
import Derived.Shelf.Slices.In.SortNone
import Derived.ChangeArms
import Derived.OpenShut
import Derived.DataReads
import Derived.ChangeOld
import Derived.WideShapes
import Derived.Lib.Join
namespace Go.Proofs.YthlhbnaloefncaaGreatDoor
set_option linter.unusedVariables false
set_option linter.unusedSimpArgs false
theorem dcT {p : Prop} [Decidable p] (h : p) : decide p = true := decide_eq_true h
theorem dcF {p : Prop} [Decidable p] (h : ¬ p) : decide p = false := decide_eq_false h
namespace Pr
open Go.RowKit
def MaxP (w : World) : Prop := ∃ m, w.cell? ⟨0, 0, none⟩ = some (.int .i64 m)
theorem MaxP.below {w w' : World} (h : MaxP w) (hb : Below w.heap.size w w') : MaxP w' := by
  obtain ⟨m, hm⟩ := h
  exact ⟨m, (hb.cell (World.block_lt_of_cell? w _ hm)).trans hm⟩
end Pr
namespace Ex
open Go Go.RowKit
def GK (w : World) : Prop := Pr.MaxP w
theorem GK.below {w w' : World} (h : GK w) (hb : Below w.heap.size w w') : GK w' := Pr.MaxP.below h hb
def kyG (p : Int × Int) : Value := .agg #[.int .i64 p.1, .int .i64 p.2]
def fnG (f : FuncId) : Value := .func (.func f) #[] #[]
def fcG (f : FuncId) (H : Nat) : Value := .func (.func f) #[] #[.pointer (some ⟨H, 0, none⟩)]
def lkG (H : Nat) : Int × Int → Value
  | (1, 1) => .agg #[.string ⟨#[97]⟩, .string ⟨#[99, 111, 110, 116, 97, 99, 116]⟩, fnG 165]
  | (2, 1) => .agg #[.string ⟨#[100]⟩, .string ⟨#[99, 111, 110, 116, 97, 99, 116]⟩, fnG 163]
  | (3, 1) => .agg #[.string ⟨#[99]⟩, .string ⟨#[99, 111, 110, 116, 97, 99, 116]⟩, fnG 164]
  | (1, 2) => .agg #[.string ⟨#[97]⟩, .string ⟨#[114, 97, 110, 103, 101]⟩, fcG 168 H]
  | (2, 2) => .agg #[.string ⟨#[100]⟩, .string ⟨#[114, 97, 110, 103, 101]⟩, fnG 166]
  | (3, 2) => .agg #[.string ⟨#[99]⟩, .string ⟨#[114, 97, 110, 103, 101]⟩, fcG 167 H]
  | _ => undef
def fKsG : List (Int × Int) := [(1, 1), (2, 1), (3, 1), (1, 2), (2, 2), (3, 2)]
structure FMap (w : World) (b H : Nat) (es : Array MapEntry) (l : List (Int × Int)) : Prop where
  box : w.heap[H]? = some (.cells #[fnG 166] 127 (0, 0))
  mp : w.heap[b]? = some (.map es l.length)
  born : es.toList.map (·.born) = List.range l.length
  kv : es.toList.map (fun e => (e.key, e.val)) = l.map fun p => (kyG p, lkG H p)
  nd : l.Nodup
  mem : ∀ p, p ∈ l ↔ p ∈ fKsG
theorem FMap.move {w w' : World} {b H : Nat} {es : Array MapEntry} {l : List (Int × Int)} (h : FMap w b H es l) (h1 : w'.heap[b]? = w.heap[b]?) (h2 : w'.heap[H]? = w.heap[H]?) : FMap w' b H es l := ⟨h2.trans h.box, h1.trans h.mp, h.born, h.kv, h.nd, h.mem⟩
def FIter (w : World) (b bm H n : Nat) (vis : List (Int × Int)) (es : Array MapEntry) (l : List (Int × Int)) : Prop := ∃ seen : Array Nat, w.heap[b]? = some (.mapIter (some bm) l.length seen l.length) ∧ (leftOf es seen).size = n ∧ (∀ e ∈ es.toList, seen.contains e.born = true → ∃ p ∈ vis, e.key = kyG p) ∧
    ∀ p r, vis = p :: r → ∃ (seen' : Array Nat) (e : MapEntry), seen = seen'.push e.born ∧ e ∈ es.toList ∧ e.key = kyG p ∧ e.val = lkG H p
def OT : Nat → Type
  | 0 => Empty
  | 1 => Nat × List (Int × Int)
  | 2 => Unit
  | _ => Empty
def OIs : (n : Nat) → OT n → Nat → Nat → (Nat → Prop) → (Nat → Prop) → World → Prop
  | 0 => fun x _ _ _ _ _ => nomatch x
  | 1 => fun x B b fp F w => fp b ∧ ∃ bm H es l, F bm ∧ F H ∧ B ≤ H ∧ FMap w bm H es l ∧ FIter w b bm H x.1 x.2 es l
  | 2 => fun _ B b _ F w => ∃ H es l, F b ∧ F H ∧ B ≤ H ∧ FMap w b H es l
  | _ + 3 => fun x _ _ _ _ _ => nomatch x
theorem OIs_move {n : Nat} {x : OT n} {B b : Nat} {fp F F' : Nat → Prop} {w w' : World} (h : OIs n x B b fp F w) (h1 : ∀ k, fp k → w'.heap[k]? = w.heap[k]?) (h2 : ∀ k, F k → F' k ∧ w'.heap[k]? = w.heap[k]?) : OIs n x B b fp F' w' := by
  match n, x, h with
  | 0, x, _ => exact nomatch x
  | 1, x, h =>
    obtain ⟨hf, bm, H, es, l, hb, hH, hB, hm, seen, g1, g2⟩ := h
    exact ⟨hf, bm, H, es, l, (h2 _ hb).1, (h2 _ hH).1, hB, hm.move (h2 _ hb).2 (h2 _ hH).2, seen, (h1 _ hf).trans g1, g2⟩
  | 2, x, h =>
    obtain ⟨H, es, l, hb, hH, hB, hm⟩ := h
    exact ⟨H, es, l, (h2 _ hb).1, (h2 _ hH).1, hB, hm.move (h2 _ hb).2 (h2 _ hH).2⟩
  | n + 3, x, _ => exact nomatch x
end Ex
namespace Ex
open Go Go.RowKit
inductive SK : Type where
  | int (k : IntKind) | bool | str | row (s : List SK) | ptr (s : List SK) | adr | fnc (f : Nat)
mutual
def SK.ty : SK → Type
  | .int _ => Int
  | .bool => Bool
  | .str => ByteArray
  | .row s => List (Tup s)
  | .ptr s => Tup s
  | .adr => Nat × Nat
  | .fnc _ => Unit
def Tup : List SK → Type
  | [] => Unit
  | k :: r => match r with
    | [] => k.ty
    | k' :: r' => k.ty × Tup (k' :: r')
end
mutual
def SK.z : (k : SK) → k.ty
  | .int _ => (0 : Int)
  | .bool => false
  | .str => (⟨#[]⟩ : ByteArray)
  | .row _ => []
  | .ptr s => zT s
  | .adr => ((0, 0) : Nat × Nat)
  | .fnc _ => ()
def zT : (s : List SK) → Tup s
  | [] => ()
  | k :: r => match r with
    | [] => k.z
    | k' :: r' => (k.z, zT (k' :: r'))
end
mutual
def SK.same : SK → SK → Bool
  | .int k, .int k' => decide (k = k')
  | .bool, .bool => true
  | .str, .str => true
  | .row s, .row s' => sames s s'
  | .ptr s, .ptr s' => sames s s'
  | .adr, .adr => true
  | .fnc f, .fnc g => Nat.beq f g
  | _, _ => false
def sames : List SK → List SK → Bool
  | [], [] => true
  | k :: r, k' :: r' => k.same k' && sames r r'
  | _, _ => false
end
mutual
theorem SK.same_eq : ∀ {a b : SK}, a.same b = true → a = b
  | .int k, b, h => by cases b <;> simp_all [SK.same]
  | .bool, b, h => by cases b <;> simp_all [SK.same]
  | .str, b, h => by cases b <;> simp_all [SK.same]
  | .row s, b, h => by
    cases b <;> simp only [SK.same] at h <;> first | cases h | skip
    rw [sames_eq h]
  | .ptr s, b, h => by
    cases b <;> simp only [SK.same] at h <;> first | cases h | skip
    rw [sames_eq h]
  | .adr, b, h => by cases b <;> simp_all [SK.same]
  | .fnc f, b, h => by
    cases b <;> simp only [SK.same] at h <;> first | cases h | skip
    rw [Nat.eq_of_beq_eq_true h]
theorem sames_eq : ∀ {a b : List SK}, sames a b = true → a = b
  | [], [], _ => rfl
  | [], _ :: _, h => by simp [sames] at h
  | _ :: _, [], h => by simp [sames] at h
  | k :: r, k' :: r', h => by
    simp only [sames, Bool.and_eq_true] at h
    rw [SK.same_eq h.1, sames_eq h.2]
end
def asRows (s s' : List SK) (l : List (Tup s)) : Option (List (Tup s')) := if h : sames s s' = true then some (sames_eq h ▸ l) else none
theorem asRows_some {s s' : List SK} {l : List (Tup s)} {l' : List (Tup s')} (h : asRows s s' l = some l') : ∃ e : s = s', l' = e ▸ l := by
  unfold asRows at h
  split at h
  · rename_i hs
    cases h
    exact ⟨sames_eq hs, rfl⟩
  · cases h
def asTup (s s' : List SK) (x : Tup s) : Option (Tup s') := if h : sames s s' = true then some (sames_eq h ▸ x) else none
theorem asTup_some {s s' : List SK} {x : Tup s} {x' : Tup s'} (h : asTup s s' x = some x') : ∃ e : s = s', x' = e ▸ x := by
  unfold asTup at h
  split at h
  · rename_i hs
    cases h
    exact ⟨sames_eq hs, rfl⟩
  · cases h
def CellsAt (w : World) (b o : Nat) (cs : List Value) : Prop := ∀ j u, cs[j]? = some u → w.cell? ⟨b, o + j, none⟩ = some u
mutual
def SKIs (ok : Nat → Prop) (w : World) : (k : SK) → k.ty → Value → Prop
  | .int k, n, v => v = .int k n
  | .bool, b, v => v = .bool b
  | .str, s, v => v = .string s
  | .row s, l, v => ∃ A c, v = .slice A (List.length (α := Tup s) l) c ∧ List.length (α := Tup s) l ≤ c ∧ ∀ (i : Nat) (x : Tup s), (show List (Tup s) from l)[i]? = some x → ∃ b o cs, A = some ⟨b, o, none⟩ ∧ ok b ∧ cs.length = s.length ∧ CellsAt w b (o + i * s.length) cs ∧ TupIs ok w s x cs
  | .ptr s, x, v => ∃ b o cs, v = .pointer (some ⟨b, o, none⟩) ∧ ok b ∧ cs.length = s.length ∧ CellsAt w b o cs ∧ TupIs ok w s x cs
  | .adr, x, v => v = .pointer (some ⟨x.1, x.2, none⟩)
  | .fnc f, _, v => v = .func (.func f) #[] #[]
def TupIs (ok : Nat → Prop) (w : World) : (s : List SK) → Tup s → List Value → Prop
  | [] => fun _ cs => cs = []
  | k :: r => match r with
    | [] => fun x cs => ∃ u, cs = [u] ∧ SKIs ok w k x u
    | k' :: r' => fun x cs => ∃ u us, cs = u :: us ∧ SKIs ok w k x.1 u ∧ TupIs ok w (k' :: r') x.2 us
end
theorem TupIs.len {ok : Nat → Prop} {w : World} : ∀ {s : List SK} {x : Tup s} {cs : List Value}, TupIs ok w s x cs → cs.length = s.length
  | [], _, _, h => by simp only [TupIs] at h; simp [h]
  | [k], x, cs, h => by
    simp only [TupIs] at h
    obtain ⟨u, rfl, _⟩ := h
    rfl
  | k :: k' :: r, x, cs, h => by
    simp only [TupIs] at h
    obtain ⟨u, us, rfl, _, h2⟩ := h
    have := TupIs.len h2
    simp only [List.length_cons] at this ⊢
    omega
def Stays (ok ok' : Nat → Prop) (w w' : World) : Prop := ∀ b, ok b → ok' b ∧ w'.heap[b]? = w.heap[b]?
theorem Stays.cells {ok ok' : Nat → Prop} {w w' : World} (h : Stays ok ok' w w') {b o : Nat} {cs : List Value} (hb : ok b) (hc : CellsAt w b o cs) : CellsAt w' b o cs := fun j u hu => by
  rw [World.cell?_of_block (w := w) (h b hb).2]
  exact hc j u hu
mutual
theorem SKIs.move {ok ok' : Nat → Prop} {w w' : World} (hs : Stays ok ok' w w') : ∀ {k : SK} {x : k.ty} {v : Value}, SKIs ok w k x v → SKIs ok' w' k x v
  | .int _, _, _, h => by simpa only [SKIs] using h
  | .bool, _, _, h => by simpa only [SKIs] using h
  | .str, _, _, h => by simpa only [SKIs] using h
  | .row s, l, v, h => by
    simp only [SKIs] at h ⊢
    obtain ⟨A, c, rfl, hc, hr⟩ := h
    refine ⟨A, c, rfl, hc, fun i x hx => ?_⟩
    obtain ⟨b, o, cs, rfl, hb, hl, hcs, ht⟩ := hr i x hx
    exact ⟨b, o, cs, rfl, (hs b hb).1, hl, hs.cells hb hcs, TupIs.move hs ht⟩
  | .ptr s, x, v, h => by
    simp only [SKIs] at h ⊢
    obtain ⟨b, o, cs, rfl, hb, hl, hcs, ht⟩ := h
    exact ⟨b, o, cs, rfl, (hs b hb).1, hl, hs.cells hb hcs, TupIs.move hs ht⟩
  | .adr, _, _, h => by simpa only [SKIs] using h
  | .fnc _, _, _, h => by simpa only [SKIs] using h
theorem TupIs.move {ok ok' : Nat → Prop} {w w' : World} (hs : Stays ok ok' w w') : ∀ {s : List SK} {x : Tup s} {cs : List Value}, TupIs ok w s x cs → TupIs ok' w' s x cs
  | [], _, _, h => by simpa only [TupIs] using h
  | [k], x, cs, h => by
    simp only [TupIs] at h ⊢
    obtain ⟨u, rfl, h⟩ := h
    exact ⟨u, rfl, SKIs.move hs h⟩
  | k :: k' :: r, x, cs, h => by
    simp only [TupIs] at h ⊢
    obtain ⟨u, us, rfl, h1, h2⟩ := h
    exact ⟨u, us, rfl, SKIs.move hs h1, TupIs.move hs h2⟩
end
inductive PV : Type where
  | un
  | v (x : Value)
  | row (fr : Bool) (s : List SK) (l : List (Tup s))
  | own (i : Nat)
  | ptr (i off : Nat)
  | rptr (fr : Bool) (s : List SK) (x : Tup s) (off : Nat)
  | eptr (i : Nat) (j : Int) (sz off : Nat)
  | mp (i : Nat)
  | ocut (i : Nat) (j : Int) (sz : Nat)
  | prow (i : Nat) (offs : List Nat)
  | pcel (i off : Nat)
  | rmap (ks : List (Int × Int)) (vs : List PV)
  | fn (f : Nat) (caps : List PV)
  | agg (cs : List PV)
  | tup (vs : List PV)
inductive ABlk : Type where
  | no
  | box (T : TypeId) (cs : List PV)
  | own (fr : Bool) (T : TypeId) (s : List SK) (l : List (Tup s))
  | mset (l : List Int)
  | obj (n : Nat) (x : OT n) (j : Nat)
structure AS where
  fr : Nat → PV
  σ : Nat → ABlk
structure Nm where
  v : Nat → Value
  b : Nat → Nat
  F : Nat → Prop
def okOf (m : Nm) (B0 : Nat) (fr : Bool) (k : Nat) : Prop := m.F k ∧ (fr = true → B0 ≤ k)
mutual
inductive RepV (m : Nm) (B0 : Nat) (w : World) : PV → Value → Prop where
  | un {v : Value} : RepV m B0 w .un v
  | v {x : Value} : RepV m B0 w (.v x) x
  | row {fr : Bool} {s : List SK} {l : List (Tup s)} {v : Value} (h : SKIs (okOf m B0 fr) w (.row s) l v) : RepV m B0 w (.row fr s l) v
  | own {i n c : Nat} {A : Option Addr} (h : m.v i = .slice A n c) : RepV m B0 w (.own i) (.slice A n c)
  | ptr {i off : Nat} : RepV m B0 w (.ptr i off) (.pointer (some ⟨m.b i, off, none⟩))
  | rptr {fr : Bool} {s : List SK} {x : Tup s} {off b o : Nat} (h : SKIs (okOf m B0 fr) w (.ptr s) x (.pointer (some ⟨b, o, none⟩))) : RepV m B0 w (.rptr fr s x off) (.pointer (some ⟨b, o + off, none⟩))
  | eptr {i sz off g n c : Nat} {j : Int} (h : m.v i = .slice (some ⟨g, 0, none⟩) n c) (h0 : 0 ≤ j) (h1 : j < n) : RepV m B0 w (.eptr i j sz off) (.pointer (some ⟨g, j.toNat * sz + off, none⟩))
  | ocut {i sz n c : Nat} {j : Int} {A : Option Addr} (h : m.v i = .slice A n c) (h0 : 0 ≤ j) (h1 : j ≤ n) : RepV m B0 w (.ocut i j sz) (.slice (if c = j.toNat then A else A.map fun x => x.add (j.toNat * sz)) (n - j.toNat) (c - j.toNat))
  | mp {i : Nat} : RepV m B0 w (.mp i) (.map (some (m.b i)))
  | prow {i b c : Nat} {offs : List Nat} (h : m.F b) (hc : offs.length ≤ c) (hh : ∀ j o, offs[j]? = some o → w.cell? ⟨b, j, none⟩ = some (.pointer (some ⟨m.b i, o, none⟩))) : RepV m B0 w (.prow i offs) (.slice (some ⟨b, 0, none⟩) offs.length c)
  | pcel {i off b o : Nat} (h : m.F b) (hh : w.cell? ⟨b, o, none⟩ = some (.pointer (some ⟨m.b i, off, none⟩))) : RepV m B0 w (.pcel i off) (.pointer (some ⟨b, o, none⟩))
  | rmap {b clock : Nat} {ks : List (Int × Int)} {vs : List PV} {us : List Value} {es : Array MapEntry} (h : m.F b) (hv : RepVs m B0 w vs us) (hl : ks.length = us.length) (hh : w.heap[b]? = some (.map es clock)) (hp : (es.toList.map fun e => (e.key, e.val)).Perm ((ks.map fun k => Value.agg #[.int .i64 k.1, .int .i64 k.2]).zip us)) : RepV m B0 w (.rmap ks vs) (.map (some b))
  | fn {f : Nat} {caps : List PV} {vs : List Value} (h : RepVs m B0 w caps vs) : RepV m B0 w (.fn f caps) (.func (.func f) #[] vs.toArray)
  | agg {cs : List PV} {vs : List Value} (h : RepVs m B0 w cs vs) : RepV m B0 w (.agg cs) (.agg vs.toArray)
  | tup {cs : List PV} {vs : List Value} (h : RepVs m B0 w cs vs) : RepV m B0 w (.tup cs) (.tuple vs.toArray)
inductive RepVs (m : Nm) (B0 : Nat) (w : World) : List PV → List Value → Prop where
  | nil : RepVs m B0 w [] []
  | cons {p : PV} {ps : List PV} {v : Value} {vs : List Value} (h : RepV m B0 w p v) (hs : RepVs m B0 w ps vs) : RepVs m B0 w (p :: ps) (v :: vs)
end
mutual
/-- Which numbers of abstract blocks a value names. -/
def PV.ids (p : Nat → Bool) : PV → Bool
  | .own i => p i
  | .ptr i _ => p i
  | .eptr i _ _ _ => p i
  | .mp i => p i
  | .ocut i _ _ => p i
  | .prow i _ => p i
  | .pcel i _ => p i
  | .rmap _ vs => idsL p vs
  | .fn _ caps => idsL p caps
  | .agg cs => idsL p cs
  | .tup vs => idsL p vs
  | _ => true
def idsL (p : Nat → Bool) : List PV → Bool
  | [] => true
  | x :: r => x.ids p && idsL p r
end
def ABlk.ids (p : Nat → Bool) : ABlk → Bool
  | .box _ cs => idsL p cs
  | .obj _ _ j => p j
  | _ => true
structure Grows (p : Nat → Bool) (m m' : Nm) (w w' : World) : Prop where
  v : ∀ i, p i = true → m'.v i = m.v i
  b : ∀ i, p i = true → m'.b i = m.b i
  F : Stays m.F m'.F w w'
theorem Grows.refl (p : Nat → Bool) (m : Nm) (w : World) : Grows p m m w w := ⟨fun _ _ => rfl, fun _ _ => rfl, fun _ h => ⟨h, rfl⟩⟩
theorem Grows.ok {p : Nat → Bool} {m m' : Nm} {w w' : World} (h : Grows p m m' w w') (B0 : Nat) (fr : Bool) : Stays (okOf m B0 fr) (okOf m' B0 fr) w w' := fun b hb => ⟨⟨(h.F b hb.1).1, hb.2⟩, (h.F b hb.1).2⟩
mutual
theorem RepV.move {p : Nat → Bool} {m m' : Nm} {B0 : Nat} {w w' : World} (hg : Grows p m m' w w') : ∀ {x : PV} {v : Value}, RepV m B0 w x v → x.ids p = true → RepV m' B0 w' x v
  | _, _, .un, _ => .un
  | _, _, .v, _ => .v
  | _, _, .row h, _ => .row (SKIs.move (hg.ok B0 _) h)
  | _, _, .own h, hp => by
    simp only [PV.ids] at hp
    exact .own ((hg.v _ hp).trans h)
  | _, _, .ptr, hp => by
    simp only [PV.ids] at hp
    rw [← hg.b _ hp]
    exact .ptr
  | _, _, .rptr h, _ => .rptr (SKIs.move (hg.ok B0 _) h)
  | _, _, .eptr h h0 h1, hp => by
    simp only [PV.ids] at hp
    exact .eptr ((hg.v _ hp).trans h) h0 h1
  | _, _, .ocut h h0 h1, hp => by
    simp only [PV.ids] at hp
    exact .ocut ((hg.v _ hp).trans h) h0 h1
  | _, _, .mp, hp => by
    simp only [PV.ids] at hp
    rw [← hg.b _ hp]
    exact .mp
  | _, _, .prow h hc hh, hp => by
    simp only [PV.ids] at hp
    refine .prow (hg.F _ h).1 hc (fun j o hj => ?_)
    rw [hg.b _ hp, World.cell?_of_block (w := w) (hg.F _ h).2]
    exact hh j o hj
  | _, _, .pcel h hh, hp => by
    simp only [PV.ids] at hp
    refine .pcel (hg.F _ h).1 ?_
    rw [hg.b _ hp, World.cell?_of_block (w := w) (hg.F _ h).2]
    exact hh
  | _, _, .rmap h hv hl hh hpm, hp => by
    simp only [PV.ids] at hp
    exact .rmap (hg.F _ h).1 (RepVs.move hg hv hp) hl ((hg.F _ h).2.trans hh) hpm
  | _, _, .fn h, hp => by
    simp only [PV.ids] at hp
    exact .fn (RepVs.move hg h hp)
  | _, _, .agg h, hp => by
    simp only [PV.ids] at hp
    exact .agg (RepVs.move hg h hp)
  | _, _, .tup h, hp => by
    simp only [PV.ids] at hp
    exact .tup (RepVs.move hg h hp)
theorem RepVs.move {p : Nat → Bool} {m m' : Nm} {B0 : Nat} {w w' : World} (hg : Grows p m m' w w') : ∀ {x : List PV} {v : List Value}, RepVs m B0 w x v → idsL p x = true → RepVs m' B0 w' x v
  | _, _, .nil, _ => .nil
  | _, _, .cons h hs, hp => by
    simp only [idsL, Bool.and_eq_true] at hp
    exact .cons (RepV.move hg h hp.1) (RepVs.move hg hs hp.2)
end
def RowsIs (ok : Nat → Prop) (w : World) (s : List SK) (l : List (Tup s)) (xs : List Value) : Prop := ∀ i x, l[i]? = some x → TupIs ok w s x ((xs.drop (i * s.length)).take s.length)
def fpV (v : Value) (k : Nat) : Prop := match v with
  | .tuple a => Value.int .i64 k ∈ a.toList
  | _ => False
def BlkIs (m : Nm) (B0 : Nat) (w : World) (i : Nat) : ABlk → Prop
  | .no => True
  | .box T cs => B0 ≤ m.b i ∧ ¬ m.F (m.b i) ∧ ∃ vs, RepVs m B0 w cs vs ∧ w.heap[m.b i]? = some (.cells vs.toArray T (0, 0))
  | .own fr T s l => ∃ xs, w.ownsRow B0 T s.length (m.v i) l.length xs ∧ RowsIs (okOf m B0 fr) w s l xs ∧ ∀ k, (m.v i).ownBlock = some k → ¬ m.F k
  | .mset l => B0 ≤ m.b i ∧ ¬ m.F (m.b i) ∧ ∃ es clock, w.heap[m.b i]? = some (.map es clock) ∧ es.toList.map (fun e => (e.key, e.val)) = l.map fun n => (Value.int .i64 n, Value.bool true)
  | .obj n x j => (∀ k, fpV (m.v j) k → B0 ≤ k ∧ k < w.heap.size ∧ ¬ m.F k) ∧ OIs n x B0 (m.b i) (fpV (m.v j)) m.F w
def blkOf (m : Nm) (i : Nat) : ABlk → Nat → Prop
  | .no => fun _ => False
  | .box _ _ => fun k => k = m.b i
  | .own _ _ _ _ => fun k => (m.v i).ownBlock = some k
  | .mset _ => fun k => k = m.b i
  | .obj _ _ j => fpV (m.v j)
structure Org extends World where
  kept : Nat → Option Obj
  gk : GK toWorld
structure Heap (w0 : Org) (m : Nm) (σ : Nat → ABlk) (w : World) : Prop where
  blk : ∀ i, BlkIs m w0.heap.size w i (σ i)
  apart : ∀ i j k, i ≠ j → blkOf m i (σ i) k → blkOf m j (σ j) k → False
  flt : ∀ k, m.F k → k < w.heap.size
  below : Below w0.heap.size w0.toWorld w
  kept : ∀ k ob, w0.kept k = some ob → m.F k ∧ w.heap[k]? = some ob
structure Rep (w0 : Org) (N : Nat) (m : Nm) (s : AS) (a : Act) (w : World) : Prop where
  size : a.tmps.size = N
  nodef : a.defers = []
  get : ∀ t, RepV m w0.heap.size w (s.fr t) (a.tmps.getD t undef)
  heap : Heap w0 m s.σ w
theorem Rep.gk {w0 : Org} {N : Nat} {m : Nm} {s : AS} {a : Act} {w : World} (h : Rep w0 N m s a w) : GK w := w0.gk.below h.heap.below
def cutW (w : World) (base : Nat) : World := { w with heap := w.heap.extract 0 base }
theorem Rep.gkc {w0 : Org} {N : Nat} {m : Nm} {s : AS} {a : Act} {w : World} (h : Rep w0 N m s a w) : GK (cutW w w0.heap.size) := by
  have hb := h.heap.below
  have hs := hb.size
  refine w0.gk.below ⟨hb.1, hb.2, hb.3, ?_, fun k hk => ?_⟩
  · show w0.heap.size ≤ (w.heap.extract 0 w0.heap.size).size
    rw [Array.size_extract]; omega
  · show (w.heap.extract 0 w0.heap.size)[k]? = _
    rw [Array.getElem?_extract, if_pos (by omega), Nat.zero_add]
    exact hb.block k hk
structure Eff where
  v : PV
  upd : List (Nat × ABlk)
def updσ (σ : Nat → ABlk) : List (Nat × ABlk) → Nat → ABlk
  | [] => σ
  | e :: r => updσ (fun k => bif Nat.beq k e.1 then e.2 else σ k) r
def updf (fr : Nat → PV) (d : Option Nat) (v : PV) : Nat → PV := match d with
  | some t => fun u => bif Nat.beq u t then v else fr u
  | none => fr
def AS.app (s : AS) (d : Option Nat) (E : Eff) : AS := ⟨updf s.fr d E.v, updσ s.σ E.upd⟩
structure Le (s s' : AS) : Prop where
  fr : ∀ t, s.fr t = .un ∨ s'.fr t = s.fr t
  σ : ∀ i, s.σ i = .no ∨ s'.σ i = s.σ i
theorem Le.refl (s : AS) : Le s s := ⟨fun _ => .inr rfl, fun _ => .inr rfl⟩
theorem Rep.le {w0 : Org} {N : Nat} {m : Nm} {s s' : AS} {a : Act} {w : World} (h : Rep w0 N m s' a w) (hl : Le s s') : Rep w0 N m s a w := by
  refine ⟨h.size, h.nodef, fun t => ?_, ⟨fun i => ?_, fun i j k hij hi hj => ?_, h.heap.flt, h.heap.below, h.heap.kept⟩⟩
  · rcases hl.fr t with h1 | h1
    · rw [h1]; exact .un
    · rw [← h1]; exact h.get t
  · rcases hl.σ i with h1 | h1
    · rw [h1]; trivial
    · rw [← h1]; exact h.heap.blk i
  · rcases hl.σ i with h1 | h1
    · rw [h1] at hi; cases hi
    rcases hl.σ j with h2 | h2
    · rw [h2] at hj; cases hj
    rw [← h1] at hi
    rw [← h2] at hj
    exact h.heap.apart i j k hij hi hj
def AS.ev (s : AS) : Operand → PV
  | .tmp t => s.fr t
  | .const v => .v v
  | .func f => .fn f []
  | .global _ => .un
theorem Rep.ev {w0 : Org} {N : Nat} {m : Nm} {s : AS} {a : Act} {w : World} (h : Rep w0 N m s a w) (x : Operand) : RepV m w0.heap.size w (s.ev x) (a.eval x) := by
  cases x with
  | tmp t => exact h.get t
  | const v => exact .v
  | func f => exact .fn .nil
  | global g => exact .un
theorem updf_get {fr : Nat → PV} {d : Option Nat} {v : PV} {t : Nat} : updf fr d v t = if d = some t then v else fr t := by
  unfold updf
  cases d with
  | none => simp
  | some u =>
    by_cases h : t = u
    · subst h; simp
    · have hb : Nat.beq t u = false := by cases hq : Nat.beq t u with
        | true => exact absurd (Nat.eq_of_beq_eq_true hq) h
        | false => rfl
      simp [hb, Ne.symm h]
theorem put_size (a : Act) (d : Option Nat) (v : Value) : (a.put d v).tmps.size = a.tmps.size := by cases d <;> simp [Act.put]
theorem put_defers (a : Act) (d : Option Nat) (v : Value) : (a.put d v).defers = a.defers := by cases d <;> rfl
theorem put_get {a : Act} {d : Option Nat} {v : Value} {t : Nat} (h : ∀ u, d = some u → u < a.tmps.size) : (a.put d v).tmps.getD t undef = if d = some t then v else a.tmps.getD t undef := by
  cases d with
  | none => simp [Act.put]
  | some u =>
    have hu := h u rfl
    by_cases ht : u = t
    · subst ht; simp [Act.put, hu, Array.getD_eq_getD_getElem?]
    · simp [Act.put, ht, Array.getD_eq_getD_getElem?, Array.getElem?_setIfInBounds_ne ht]
def dOk (d : Option Nat) (N : Nat) : Bool := match d with
  | some t => Nat.blt t N
  | none => true
theorem dOk_lt {d : Option Nat} {N : Nat} (h : dOk d N = true) : ∀ u, d = some u → u < N := fun u hu => by
  subst hu
  exact Nat.le_of_ble_eq_true h
theorem Rep.put {w0 : Org} {N : Nat} {m m' : Nm} {s : AS} {a : Act} {w w' : World} {p : Nat → Bool} {d : Option Nat} {E : Eff} {v : Value} (h : Rep w0 N m s a w) (hd : dOk d N = true) (hg : Grows p m m' w w')
    (hi : ∀ t, (s.fr t).ids p = true) (hv : RepV m' w0.heap.size w' E.v v) (hh : Heap w0 m' (updσ s.σ E.upd) w') : Rep w0 N m' (s.app d E) (a.put d v) w' := by
  refine ⟨by rw [put_size]; exact h.size, by rw [put_defers]; exact h.nodef, fun t => ?_, hh⟩
  show RepV m' w0.heap.size w' (updf s.fr d E.v t) _
  rw [updf_get, put_get (fun u hu => by rw [h.size]; exact dOk_lt hd u hu)]
  split
  · exact hv
  · exact RepV.move hg (h.get t) (hi t)
end Ex
namespace Ex
open Go Go.RowKit
section
variable {m : Nm} {B0 : Nat} {w : World} {ps qs : List PV} {vs us : List Value}
theorem RepVs.len (h : RepVs m B0 w ps vs) : ps.length = vs.length := by
  induction ps generalizing vs with
  | nil => cases h; rfl
  | cons p ps ih => cases h with | cons h hs => simp [ih hs]
theorem RepVs.append (h : RepVs m B0 w ps vs) (h' : RepVs m B0 w qs us) : RepVs m B0 w (ps ++ qs) (vs ++ us) := by
  induction ps generalizing vs with
  | nil => cases h; exact h'
  | cons p ps ih => cases h with | cons h hs => exact .cons h (ih hs)
theorem RepVs.drop (h : RepVs m B0 w ps vs) (n : Nat) : RepVs m B0 w (ps.drop n) (vs.drop n) := by
  induction ps generalizing vs n with
  | nil => cases h; simpa using RepVs.nil
  | cons p ps ih =>
    cases h with
    | cons h hs =>
      cases n with
      | zero => exact .cons h hs
      | succ n => exact ih hs n
theorem RepVs.take (h : RepVs m B0 w ps vs) (n : Nat) : RepVs m B0 w (ps.take n) (vs.take n) := by
  induction ps generalizing vs n with
  | nil => cases h; simpa using RepVs.nil
  | cons p ps ih =>
    cases h with
    | cons h hs =>
      cases n with
      | zero => exact .nil
      | succ n => exact .cons h (ih hs n)
theorem RepVs.get {i : Nat} {p : PV} (h : RepVs m B0 w ps vs) (hp : ps[i]? = some p) : ∃ v, vs[i]? = some v ∧ RepV m B0 w p v := by
  induction ps generalizing vs i with
  | nil => simp at hp
  | cons q ps ih =>
    cases h with
    | cons h hs =>
      cases i with
      | zero => simp only [List.getElem?_cons_zero, Option.some.injEq] at hp; subst hp; exact ⟨_, rfl, h⟩
      | succ i => simpa using ih hs (by simpa using hp)
theorem RepVs.exact (l : List Value) : RepVs m B0 w (l.map .v) l := by
  induction l with
  | nil => exact .nil
  | cons v l ih => exact .cons .v ih
theorem RepVs.map {α : Type} {f : α → PV} {g : α → Value} (h : ∀ x, RepV m B0 w (f x) (g x)) (l : List α) : RepVs m B0 w (l.map f) (l.map g) := by
  induction l with
  | nil => exact .nil
  | cons x l ih => exact .cons (h x) ih
end
def PV.cells : PV → Option (List PV)
  | .agg cs => some cs
  | .v x => some (x.cells.toList.map .v)
  | .un => none
  | .tup _ => none
  | x => some [x]
theorem PV.cells_ok {m : Nm} {B0 : Nat} {w : World} {x : PV} {v : Value} {cs : List PV} (h : RepV m B0 w x v) (hc : x.cells = some cs) : RepVs m B0 w cs v.cells.toList := by
  cases h with
  | un => cases hc
  | tup h => cases hc
  | v => simp only [PV.cells, Option.some.injEq] at hc; subst hc; exact RepVs.exact _
  | agg h => simp only [PV.cells, Option.some.injEq] at hc; subst hc; simpa [Value.cells] using h
  | row h =>
    simp only [PV.cells, Option.some.injEq] at hc
    subst hc
    have h0 := h
    simp only [SKIs] at h
    obtain ⟨A, c, rfl, _⟩ := h
    exact .cons (.row h0) .nil
  | own h => simp only [PV.cells, Option.some.injEq] at hc; subst hc; exact .cons (.own h) .nil
  | ptr => simp only [PV.cells, Option.some.injEq] at hc; subst hc; exact .cons .ptr .nil
  | rptr h => simp only [PV.cells, Option.some.injEq] at hc; subst hc; exact .cons (.rptr h) .nil
  | eptr h h0 h1 => simp only [PV.cells, Option.some.injEq] at hc; subst hc; exact .cons (.eptr h h0 h1) .nil
  | fn h => simp only [PV.cells, Option.some.injEq] at hc; subst hc; exact .cons (.fn h) .nil
  | ocut h h0 h1 => simp only [PV.cells, Option.some.injEq] at hc; subst hc; exact .cons (.ocut h h0 h1) .nil
  | prow h h1 h2 => simp only [PV.cells, Option.some.injEq] at hc; subst hc; exact .cons (.prow h h1 h2) .nil
  | pcel h h1 => simp only [PV.cells, Option.some.injEq] at hc; subst hc; exact .cons (.pcel h h1) .nil
  | rmap h h1 h2 h3 h4 => simp only [PV.cells, Option.some.injEq] at hc; subst hc; exact .cons (.rmap h h1 h2 h3 h4) .nil
  | mp => simp only [PV.cells, Option.some.injEq] at hc; subst hc; exact .cons .mp .nil
def PV.one : PV → Bool
  | .v x => x.oneCell'
  | .un => false
  | .agg _ => false
  | .tup _ => false
  | _ => true
theorem PV.one_ok {m : Nm} {B0 : Nat} {w : World} {x : PV} {v : Value} (h : RepV m B0 w x v) (hc : x.one = true) : v.oneCell' = true := by
  cases h with
  | un => cases hc
  | tup h => cases hc
  | agg h => cases hc
  | v => exact hc
  | row h =>
    simp only [SKIs] at h
    obtain ⟨A, c, rfl, _⟩ := h
    rfl
  | own h => rfl
  | ptr => rfl
  | rptr h => rfl
  | eptr h h0 h1 => rfl
  | prow h h1 h2 => rfl
  | pcel h h1 => rfl
  | rmap h h1 h2 h3 h4 => rfl
  | mp => rfl
  | ocut h h0 h1 => rfl
  | fn h => rfl
def aggB (P : Program) (t : TypeId) : Option Bool := match P.underlying t with
  | some (.struct _) => some true
  | some (.array _ _) => some true
  | some _ => some false
  | none => none
theorem aggB_ok {P : Program} {t : TypeId} {b : Bool} (h : aggB P t = some b) (w : World) : (isAgg t).run P w = .ok b w := by
  unfold aggB at h
  cases hu : P.underlying t with
  | none => rw [hu] at h; cases h
  | some d =>
    rw [hu] at h
    unfold isAgg
    rw [Sem.run_bind, run_underlying hu]
    cases d <;> simp_all <;> rfl
def sizeB (P : Program) (t : TypeId) : Option Nat := (P.info? t).map (·.size)
theorem sizeB_ok {P : Program} {t : TypeId} {n : Nat} (h : sizeB P t = some n) (w : World) : (sizeOf t).run P w = .ok n w := by
  unfold sizeB at h
  cases hi : P.info? t with
  | none => rw [hi] at h; cases h
  | some i =>
    rw [hi] at h
    simp only [Option.map_some, Option.some.injEq] at h
    simp [sizeOf, typeInfo, hi, h]
def zeroB (P : Program) (t : TypeId) : Option Value := (P.info? t).bind (·.zero)
theorem zeroB_ok {P : Program} {t : TypeId} {v : Value} (h : zeroB P t = some v) (w : World) : (zeroValue t).run P w = .ok v w := by
  unfold zeroB at h
  cases hi : P.info? t with
  | none => rw [hi] at h; cases h
  | some i =>
    rw [hi] at h
    simp only [Option.bind_some] at h
    simp [zeroValue, typeInfo, hi, h]
def partB (P : Program) (t : TypeId) (cs : List PV) (off : Nat) : Option PV := match aggB P t with
  | some true => match sizeB P t with
    | some n => bif Nat.ble (off + n) cs.length then some (.agg ((cs.drop off).take n)) else none
    | none => none
  | some false => cs[off]?
  | none => none
theorem partB_ok {P : Program} {m : Nm} {B0 : Nat} {w : World} {t : TypeId} {cs : List PV} {vs : List Value} {off : Nat} {p : PV} (h : RepVs m B0 w cs vs) (hp : partB P t cs off = some p) (W : World) : ∃ v, (part t vs.toArray off).run P W = .ok v W ∧ RepV m B0 w p v := by
  unfold partB at hp
  unfold part
  cases ha : aggB P t with
  | none => rw [ha] at hp; cases hp
  | some b =>
    rw [ha] at hp
    simp only [Sem.run_bind, aggB_ok ha, Result.andThen_ok]
    cases b with
    | true =>
      simp only at hp
      cases hs : sizeB P t with
      | none => rw [hs] at hp; cases hp
      | some n =>
        rw [hs] at hp
        cases hble : Nat.ble (off + n) cs.length with
        | false => simp [hble] at hp
        | true =>
        simp only [hble, cond_true, Option.some.injEq] at hp
        subst hp
        refine ⟨_, by simp only [if_true, Sem.run_bind, sizeB_ok hs, Result.andThen_ok, Sem.run_pure]; rfl, ?_⟩
        have := RepV.agg ((h.drop off).take n)
        rw [List.extract_toArray]
        simpa [List.extract_eq_take_drop] using this
    | false =>
      simp only at hp
      obtain ⟨v, hv, hr⟩ := h.get hp
      refine ⟨v, ?_, hr⟩
      simp [hv]
end Ex
namespace Ex
open Go Go.RowKit
def old (id0 : Nat) (i : Nat) : Bool := Nat.blt i id0 || Nat.ble (id0 + 8) i
structure Fresh (id0 : Nat) (s : AS) : Prop where
  fr : ∀ t, (s.fr t).ids (old id0) = true
  σ : ∀ i, (s.σ i).ids (old id0) = true
  no : ∀ i, old id0 i = false → s.σ i = .no
def Step (P : Program) (w0 : Org) (N : Nat) (S : AS) (id0 : Nat) (o : Oper) (E : Eff) : Prop :=
  ∀ (S' : AS) (m : Nm) (a : Act) (w : World), Le S S' → Fresh id0 S' → Rep w0 N m S' a w → ∀ (K : Act → World → Prop) (Q : Exit → Act → World → Prop),
    (∀ m' w' v, Grows (old id0) m m' w w' → Heap w0 m' (updσ S'.σ E.upd) w' → RepV m' w0.heap.size w' E.v v → K (a.put o.dst v) w') → o.wp P a w K Q
section
variable {P : Program} {w0 : Org} {N : Nat} {S : AS} {id0 : Nat} {o : Oper} {E : Eff}
theorem Step.value {p : PV} (h : ∀ m a w, Rep w0 N m S a w → ∃ v, (execOp a.eval o).run P w = .ok (.value v) w ∧ RepV m w0.heap.size w p v) : Step P w0 N S id0 o ⟨p, []⟩ := by
  intro S' m a w hl hf hr K Q hK
  obtain ⟨v, hrun, hv⟩ := h m a w (hr.le hl)
  unfold Oper.wp
  rw [hrun, Oper.upon_value]
  exact hK m w v (Grows.refl _ _ _) hr.heap hv
end
def Sound (P : Program) (w0 : Org) (N : Nat) (S : AS) (id0 : Nat) (o : Oper) {ρ : Type} (κ : Eff → Option ρ) (r : ρ) : Prop := ∃ E, κ E = some r ∧ Step P w0 N S id0 o E
def SoundV (P : Program) (w0 : Org) (N : Nat) (S : AS) (o : Oper) {ρ : Type} (κ : PV → Option ρ) (r : ρ) : Prop := ∃ p, κ p = some r ∧ ∀ m a w, Rep w0 N m S a w → ∃ v, (execOp a.eval o).run P w = .ok (.value v) w ∧ RepV m w0.heap.size w p v
theorem SoundV.sound {P : Program} {w0 : Org} {N : Nat} {S : AS} {id0 : Nat} {o : Oper} {ρ : Type} {κ : Eff → Option ρ} {r : ρ} (h : SoundV P w0 N S o (fun p => κ ⟨p, []⟩) r) : Sound P w0 N S id0 o κ r := by
  obtain ⟨p, h1, h2⟩ := h
  exact ⟨_, h1, Step.value h2⟩
theorem cond_some {α : Type} {b : Bool} {x y : Option α} {r : α} (h : (bif b then x else y) = some r) : b = true ∧ x = some r ∨ b = false ∧ y = some r := by cases b <;> simp_all
section
variable {ρ : Type}
def binI (op : BinOp) (k : IntKind) (a b : Int) (κ : PV → Option ρ) : Option ρ := match op with
  | .lss => κ (.v (.bool (decide (a < b))))
  | .leq => κ (.v (.bool (decide (a ≤ b))))
  | .gtr => κ (.v (.bool (decide (b < a))))
  | .geq => κ (.v (.bool (decide (b ≤ a))))
  | .eql => κ (.v (.bool (decide (a = b))))
  | .neq => κ (.v (.bool (!decide (a = b))))
  | .add => κ (.v (.int k (k.wrap (a + b))))
  | .sub => κ (.v (.int k (k.wrap (a - b))))
  | .mul => κ (.v (.int k (k.wrap (a * b))))
  | .quo => bif decide (b = 0) then none else κ (.v (.int k (k.wrap (a.tdiv b))))
  | .rem => bif decide (b = 0) then none else κ (.v (.int k (a.tmod b)))
  | _ => none
def binS (op : BinOp) (a b : ByteArray) (κ : PV → Option ρ) : Option ρ := match op with
  | .eql => κ (.v (.bool (a.data.toList == b.data.toList)))
  | .neq => κ (.v (.bool (!(a.data.toList == b.data.toList))))
  | .add => bif decide (a.size + b.size ≤ 9223372036854775807) then κ (.v (.string (a ++ b))) else none
  | _ => none
end
def eqLeaf : TypeDesc → PV → PV → Option Bool
  | .bool, .v (.bool a), .v (.bool b) => some (a == b)
  | .int _, .v (.int k a), .v (.int k' b) => bif decide (k = k') then some (a == b) else none
  | .string, .v (.string a), .v (.string b) => some (a.data.toList == b.data.toList)
  | _, _, _ => none
mutual
def eqB (P : Program) : Nat → TypeId → PV → PV → Option Bool
  | 0, _, _, _ => none
  | d + 1, t, x, y => match P.underlying t with
    | some (.struct fs) => match x, y with
      | .agg xs, .agg ys => bif P.stoodInHeld t then none else eqFs P d fs.toList xs ys
      | _, _ => none
    | some (.array n e) => match x, y with
      | .agg xs, .agg ys => match sizeB P e with
        | some sz => eqAs P d n e sz 0 xs ys
        | none => none
      | _, _ => none
    | some k => eqLeaf k x y
    | none => none
def eqFs (P : Program) : Nat → List Field → List PV → List PV → Option Bool
  | 0, _, _, _ => none
  | d + 1, fs, xs, ys => match fs with
    | [] => some true
    | f :: r => match partB P f.type xs f.offset, partB P f.type ys f.offset with
      | some a, some b => bif f.name == "_" then none else match eqB P d f.type a b with
        | some c => match r with
          | [] => some c
          | f' :: r' => match eqFs P d (f' :: r') xs ys with
            | some c' => some (c && c')
            | none => none
        | none => none
      | _, _ => none
def eqAs (P : Program) : Nat → Nat → TypeId → Nat → Nat → List PV → List PV → Option Bool
  | 0, _, _, _, _, _, _ => none
  | d + 1, n, e, sz, i, xs, ys => match n with
    | 0 => some true
    | n + 1 => match partB P e xs (i * sz), partB P e ys (i * sz) with
      | some a, some b => match eqB P d e a b with
        | some c => match n with
          | 0 => some c
          | n' + 1 => match eqAs P d (n' + 1) e sz (i + 1) xs ys with
            | some c' => some (c && c')
            | none => none
        | none => none
      | _, _ => none
end
def Op.eqElems (D : Nat) (xs ys : Array Value) (e : TypeId) (sz : Nat) : Nat → Nat → Sem Bool
  | _, 0 => pure true
  | i, n + 1 => do
    let a ← part e xs (i * sz)
    let b ← part e ys (i * sz)
    let r ← Go.Op.equalIn D e a b
    if (!r) = true then pure false else Op.eqElems D xs ys e sz (i + 1) n
theorem run_equalIn_array {P : Program} (w : World) (D : Nat) (t e : TypeId) (n sz : Nat) (xs ys : Array Value) (ht : P.underlying t = some (.array n e)) (hs : sizeB P e = some sz) :
    (Go.Op.equalIn (D + 1) t (.agg xs) (.agg ys)).run P w = (Op.eqElems D xs ys e sz 0 n).run P w := by
  simp only [Go.Op.equalIn, Sem.run_bind, run_underlying ht, Result.andThen_ok, sizeB_ok hs]
  simp only [Std.Legacy.Range.forIn_eq_forIn_range', Std.Legacy.Range.size, Nat.sub_zero, Nat.add_sub_cancel, Nat.div_one]
  clear ht
  generalize 0 = i
  induction n generalizing i w with
  | zero => simp [Op.eqElems]
  | succ n ih =>
    rw [List.range'_succ, List.forIn_cons]
    simp only [Op.eqElems, Sem.run_bind]
    generalize (part e xs (i * sz)).run P w = r1
    cases r1 with
    | halt x w1 => simp [Result.andThen]
    | ok a w1 =>
      simp only [Result.andThen_ok]
      generalize (part e ys (i * sz)).run P w1 = r2
      cases r2 with
      | halt x w1 => simp [Result.andThen]
      | ok b w2 =>
        simp only [Result.andThen_ok]
        generalize (Go.Op.equalIn D e a b).run P w2 = r3
        cases r3 with
        | halt x w1 => simp [Result.andThen]
        | ok c w3 =>
          cases c
          · simp
          · simpa using ih w3 (i + 1)
theorem eqLeaf_ok {P : Program} {m : Nm} {B0 : Nat} {w : World} {d : TypeDesc} {t : TypeId} {x y : PV} {vx vy : Value} {c : Bool} (hu : P.underlying t = some d) (h : eqLeaf d x y = some c) (hx : RepV m B0 w x vx) (hy : RepV m B0 w y vy) (D : Nat) (W : World) : (Go.Op.equalIn (D + 1) t vx vy).run P W = .ok c W := by
  unfold eqLeaf at h
  split at h
  · cases hx; cases hy; cases h
    exact run_equalIn_bool' W D t _ _ hu
  · cases hx; cases hy
    rcases cond_some h with ⟨h1, h2⟩ | ⟨_, h2⟩
    · cases h2
      have := of_decide_eq_true h1
      subst this
      exact run_equalIn_int W D t _ _ _ _ hu
    · cases h2
  · cases hx; cases hy; cases h
    simp only [← ByteArray.toList_eq]
    exact run_equalIn_string W D t _ _ hu
  · cases h
theorem run_eqFields_last {P : Program} {D : Nat} {xs ys : Array Value} {f : Field} {a b : Value} {c : Bool} {W : World} (hn : (f.name == "_") = false) (ha : (part f.type xs f.offset).run P W = .ok a W) (hb : (part f.type ys f.offset).run P W = .ok b W) (he : (Go.Op.equalIn D f.type a b).run P W = .ok c W) : (Go.Op.eqFields D xs ys [f]).run P W = .ok c W := by
  have hn' : f.name ≠ "_" := by simpa using hn
  simp only [Go.Op.eqFields, if_pos hn', Sem.run_bind, ha, hb, he, Result.andThen_ok]
  cases c <;> simp
theorem run_eqFields_cons {P : Program} {D : Nat} {xs ys : Array Value} {f : Field} {fs : List Field} {a b : Value} {c c' : Bool} {W : World} (hn : (f.name == "_") = false) (ha : (part f.type xs f.offset).run P W = .ok a W) (hb : (part f.type ys f.offset).run P W = .ok b W) (he : (Go.Op.equalIn D f.type a b).run P W = .ok c W) (hr : (Go.Op.eqFields D xs ys fs).run P W = .ok c' W) : (Go.Op.eqFields D xs ys (f :: fs)).run P W = .ok (c && c') W := by
  have hn' : f.name ≠ "_" := by simpa using hn
  rw [Go.Op.eqFields]
  simp only [if_pos hn', Sem.run_bind, ha, hb, he, Result.andThen_ok]
  cases c
  · simp
  · simpa using hr
mutual
theorem eqB_ok {P : Program} {m : Nm} {B0 : Nat} {w : World} : ∀ {d : Nat} {t : TypeId} {x y : PV} {vx vy : Value} {c : Bool}, eqB P d t x y = some c → RepV m B0 w x vx → RepV m B0 w y vy → ∀ (D : Nat), d ≤ D → ∀ W, (Go.Op.equalIn D t vx vy).run P W = .ok c W
  | 0, _, _, _, _, _, _, h, _, _, _, _, _ => by simp [eqB] at h
  | d + 1, t, x, y, vx, vy, c, h, hx, hy, D, hD, W => by
    obtain ⟨D, rfl⟩ : ∃ D', D = D' + 1 := ⟨D - 1, by omega⟩
    unfold eqB at h
    split at h
    · rename_i fs hu
      split at h
      · rename_i xs ys
        cases hx with | agg hx => cases hy with | agg hy =>
        rcases cond_some h with ⟨_, h2⟩ | ⟨h1, h2⟩
        · cases h2
        · have hf : P.fieldsOf t = fs := by simp [Program.fieldsOf, hu]
          rw [run_equalIn_struct W D t _ _ (by rw [hf]; exact hu) h1, hf]
          exact eqFs_ok h2 hx hy D (by omega) W
      · cases h
    · rename_i n e hu
      split at h
      · rename_i xs ys
        cases hx with | agg hx => cases hy with | agg hy =>
        split at h
        · rename_i sz hs
          rw [run_equalIn_array W D t e n sz _ _ hu hs]
          exact eqAs_ok h hx hy D (by omega) W
        · cases h
      · cases h
    · rename_i k hn1 hn2 hu
      exact eqLeaf_ok hu h hx hy D W
    · cases h
theorem eqFs_ok {P : Program} {m : Nm} {B0 : Nat} {w : World} : ∀ {d : Nat} {fs : List Field} {xs ys : List PV} {vs us : List Value} {c : Bool}, eqFs P d fs xs ys = some c → RepVs m B0 w xs vs → RepVs m B0 w ys us → ∀ (D : Nat), d ≤ D → ∀ W, (Go.Op.eqFields D vs.toArray us.toArray fs).run P W = .ok c W
  | 0, _, _, _, _, _, _, h, _, _, _, _, _ => by simp [eqFs] at h
  | d + 1, fs, xs, ys, vs, us, c, h, hx, hy, D, hD, W => by
    unfold eqFs at h
    split at h
    · cases h; simp [Go.Op.eqFields]
    · rename_i f r
      split at h
      · rename_i a b ha hb
        rcases cond_some h with ⟨_, h2⟩ | ⟨hn, h⟩
        · cases h2
        obtain ⟨va, hra, hva⟩ := partB_ok hx ha W
        obtain ⟨vb, hrb, hvb⟩ := partB_ok hy hb W
        split at h
        · rename_i c1 hc1
          have he := eqB_ok hc1 hva hvb D (by omega) W
          split at h
          · cases h
            exact run_eqFields_last hn hra hrb he
          · split at h
            · rename_i c2 hc2
              cases h
              exact run_eqFields_cons hn hra hrb he (eqFs_ok hc2 hx hy D (by omega) W)
            · cases h
        · cases h
      · cases h
theorem eqAs_ok {P : Program} {m : Nm} {B0 : Nat} {w : World} : ∀ {d n : Nat} {e : TypeId} {sz i : Nat} {xs ys : List PV} {vs us : List Value} {c : Bool}, eqAs P d n e sz i xs ys = some c → RepVs m B0 w xs vs → RepVs m B0 w ys us → ∀ (D : Nat), d ≤ D → ∀ W, (Op.eqElems D vs.toArray us.toArray e sz i n).run P W = .ok c W
  | 0, _, _, _, _, _, _, _, _, _, h, _, _, _, _, _ => by simp [eqAs] at h
  | d + 1, n, e, sz, i, xs, ys, vs, us, c, h, hx, hy, D, hD, W => by
    unfold eqAs at h
    split at h
    · cases h; simp [Op.eqElems]
    · rename_i n
      split at h
      · rename_i a b ha hb
        obtain ⟨va, hra, hva⟩ := partB_ok hx ha W
        obtain ⟨vb, hrb, hvb⟩ := partB_ok hy hb W
        split at h
        · rename_i c1 hc1
          have he := eqB_ok hc1 hva hvb D (by omega) W
          split at h
          · cases h
            simp only [Op.eqElems, Sem.run_bind, hra, hrb, he, Result.andThen_ok]
            cases c <;> simp
          · rename_i n' 
            split at h
            · rename_i c2 hc2
              cases h
              have hr := eqAs_ok hc2 hx hy D (by omega) W
              rw [Op.eqElems]
              simp only [Sem.run_bind, hra, hrb, he, Result.andThen_ok]
              cases c1
              · simp
              · simpa using hr
            · cases h
        · cases h
      · cases h
end
end Ex
namespace Ex
open Go Go.RowKit
def mn (a b : Int) : Int := if b < a then b else a
def mx (a b : Int) : Int := if a < b then b else a
section
variable {P : Program} {w0 : Org} {w : World} {N : Nat} {S : AS} {o : Oper} {ρ : Type} {r : ρ} {ev : Operand → Value} {v : Value}
theorem run_of {s : Sem Value} (hs : execOp ev o = (do pure (Next.value (← s)))) (h : s.run P w = .ok v w) : (execOp ev o).run P w = .ok (.value v) w := by
  rw [hs]
  simp [Sem.run_bind, h]
theorem ev_v {m : Nm} {S : AS} {a : Act} {x : Operand} {y : Value} (hr : Rep w0 N m S a w) (h : S.ev x = .v y) : a.eval x = y := by
  have h1 := hr.ev x
  rw [h] at h1
  generalize a.eval x = z at h1
  cases h1
  rfl
theorem run_of_w {w1 : World} {s : Sem Value} (hs : execOp ev o = (do pure (Next.value (← s)))) (h : s.run P w = .ok v w1) : (execOp ev o).run P w = .ok (.value v) w1 := by
  rw [hs]
  simp [Sem.run_bind, h]
theorem move_ok {x : Operand} {κ : PV → Option ρ} (ho : o.op = .move x ∨ o.op = .assign x) (h : κ (S.ev x) = some r) : SoundV P w0 N S o κ r :=
  ⟨_, h, fun m a w hr => ⟨a.eval x, by unfold execOp; rcases ho with ho | ho <;> simp only [ho] <;> rfl, hr.ev x⟩⟩
def opPick (S : AS) (c a b : Operand) (κ : PV → Option ρ) : Option ρ := match S.ev c with
  | .v (.bool t) => bif t then κ (S.ev a) else κ (S.ev b)
  | _ => none
theorem pick_ok {c x y : Operand} {κ : PV → Option ρ} (ho : o.op = .pick c x y) (h : opPick S c x y κ = some r) : SoundV P w0 N S o κ r := by
  unfold opPick at h
  split at h
  · rename_i t hc
    have hcv : ∀ m a w, Rep w0 N m S a w → a.eval c = .bool t := fun m a w hr => ev_v hr hc
    rcases cond_some h with ⟨rfl, h⟩ | ⟨rfl, h⟩
    · exact ⟨_, h, fun m a w hr => ⟨a.eval x, by unfold execOp; simp only [ho, hcv m a w hr]; rfl, hr.ev x⟩⟩
    · exact ⟨_, h, fun m a w hr => ⟨a.eval y, by unfold execOp; simp only [ho, hcv m a w hr]; rfl, hr.ev y⟩⟩
  · cases h
def opBin (P : Program) (op : BinOp) (t : TypeId) (x y : PV) (κ : PV → Option ρ) : Option ρ := match x, y with
  | .v (.int k a), .v (.int k' b) => match op with
    | .shr => bif decide (b < 0) then none else κ (.v (.int k (a.fdiv (2 ^ (min b.toNat k.bits)))))
    | .shl => none
    | op => bif decide (k = k') then binI op k a b κ else none
  | .v (.string a), .v (.string b) => binS op a b κ
  | x, y => bif P.eqGuardType P.depth t then none else match op with
    | .eql => match eqB P 40 t x y with
      | some c => κ (.v (.bool c))
      | none => none
    | .neq => match eqB P 40 t x y with
      | some c => κ (.v (.bool (!c)))
      | none => none
    | _ => none
theorem run_bin {op : BinOp} {x y : Operand} {t yt : TypeId} {vx vy : Value} (ho : o.op = .binOp op t x y yt) (hx : ev x = vx) (hy : ev y = vy) (hg : (eqGuard op t x y vx vy).run P w = .ok () w) (h : (binOp op t vx vy).run P w = .ok v w) : (execOp ev o).run P w = .ok (.value v) w := by
  unfold execOp
  simp only [ho, hx, hy]
  simp [Sem.run_bind, hg, h]
theorem guard_int {op : BinOp} {x y : Operand} {t : TypeId} {k k' : IntKind} {a b : Int} : (eqGuard op t x y (.int k a) (.int k' b)).run P w = .ok () w := by
  unfold eqGuard
  cases op <;> simp
theorem guard_string {op : BinOp} {x y : Operand} {t : TypeId} {a b : ByteArray} : (eqGuard op t x y (.string a) (.string b)).run P w = .ok () w := by
  unfold eqGuard
  cases op <;> simp
theorem binI_ok {op : BinOp} {t : TypeId} {k : IntKind} {a b : Int} {κ : PV → Option ρ} (h : binI op k a b κ = some r) : ∃ v, κ (.v v) = some r ∧ ∀ w, (binOp op t (.int k a) (.int k b)).run P w = .ok v w := by
  unfold binI at h
  cases op <;> simp only at h
  case quo | rem =>
    rcases cond_some h with ⟨_, h2⟩ | ⟨h1, h2⟩
    · cases h2
    · exact ⟨_, h2, fun w => by have := of_decide_eq_false h1; simp [binOp, Op.intDiv, this]⟩
  all_goals first
    | (cases h; done)
    | (refine ⟨_, h, fun w => ?_⟩; simp [binOp, Op.intArith]; done)
    | (refine ⟨_, h, fun w => ?_⟩; simp [binOp, Op.intCmp]; done)
    | (refine ⟨_, h, fun w => ?_⟩; simp [binOp, Op.intCmp]; rfl)
    | (refine ⟨_, h, fun w => ?_⟩; simp [binOp, Op.intCmp, bne]; rfl)
theorem binS_ok {op : BinOp} {t : TypeId} {a b : ByteArray} {κ : PV → Option ρ} (h : binS op a b κ = some r) : ∃ v, κ (.v v) = some r ∧ ∀ w, (binOp op t (.string a) (.string b)).run P w = .ok v w := by
  unfold binS at h
  cases op <;> simp only at h <;> first
    | cases h
    | exact ⟨_, h, fun w => by simp [binOp, Op.stringOp, ByteArray.toList_eq]⟩
    | skip
  rcases cond_some h with ⟨h1, h2⟩ | ⟨_, h2⟩
  · refine ⟨_, h2, fun w => ?_⟩
    have := of_decide_eq_true h1
    have h3 : ¬ (((a.size + b.size : Nat) : Int) > IntKind.i64.max) := by simp [IntKind.max, IntKind.signed, IntKind.bits]; omega
    simp only [binOp, Op.stringOp]
    rw [if_neg h3]
    rfl
  · cases h2
theorem eqGuard_ok {m : Nm} {B0 : Nat} {op : BinOp} {ox oy : Operand} {t : TypeId} {x y : PV} {vx vy : Value} {c : Bool} (hg : P.eqGuardType P.depth t = false) (h : eqB P 40 t x y = some c) (hx : RepV m B0 w x vx) (hy : RepV m B0 w y vy) (W : World) : (eqGuard op t ox oy vx vy).run P W = .ok () W := by
  unfold eqB at h
  have agg : ∀ xs ys, (eqGuard op t ox oy (.agg xs) (.agg ys)).run P W = .ok () W := fun xs ys => by
    unfold eqGuard
    cases op <;> simp [program, Sem.run_bind, Sem.run, hg]
  split at h
  · split at h
    · cases hx; cases hy; exact agg _ _
    · cases h
  · split at h
    · cases hx; cases hy; exact agg _ _
    · cases h
  · unfold eqLeaf at h
    split at h
    · cases hx; cases hy; unfold eqGuard; cases op <;> simp
    · cases hx; cases hy; unfold eqGuard; cases op <;> simp
    · cases hx; cases hy; unfold eqGuard; cases op <;> simp
    · cases h
  · cases h
theorem eqB_bin {m : Nm} {B0 : Nat} {t : TypeId} {x y : PV} {vx vy : Value} {c : Bool} (hn1 : ∀ k a k' b, x = .v (.int k a) → y = .v (.int k' b) → False) (hn2 : ∀ a b, x = .v (.string a) → y = .v (.string b) → False) (h : eqB P 40 t x y = some c) (hx : RepV m B0 w x vx) (hy : RepV m B0 w y vy) {W : World} (he : (Go.Op.equal t vx vy).run P W = .ok c W) :
    (binOp .eql t vx vy).run P W = .ok (.bool c) W ∧ (binOp .neq t vx vy).run P W = .ok (.bool (!c)) W := by
  unfold eqB at h
  split at h
  · split at h
    · cases hx; cases hy; simp [binOp, Sem.run_bind, he]
    · cases h
  · split at h
    · cases hx; cases hy; simp [binOp, Sem.run_bind, he]
    · cases h
  · unfold eqLeaf at h
    split at h
    · cases hx; cases hy; simp [binOp, Sem.run_bind, he]
    · exact (hn1 _ _ _ _ rfl rfl).elim
    · exact (hn2 _ _ rfl rfl).elim
    · cases h
  · cases h
theorem bin_ok {op : BinOp} {x y : Operand} {t yt : TypeId} {κ : PV → Option ρ} (ho : o.op = .binOp op t x y yt) (h : opBin P op t (S.ev x) (S.ev y) κ = some r) : SoundV P w0 N S o κ r := by
  unfold opBin at h
  split at h
  · rename_i k a k' b hx hy
    have hxv : ∀ m ac w, Rep w0 N m S ac w → ac.eval x = .int k a ∧ ac.eval y = .int k' b := fun m ac w hr => ⟨ev_v hr hx, ev_v hr hy⟩
    split at h
    · rcases cond_some h with ⟨_, h2⟩ | ⟨h1, h2⟩
      · cases h2
      · have hb := of_decide_eq_false h1
        exact ⟨_, h2, fun m ac w hr => ⟨_, run_bin ho (hxv m ac w hr).1 (hxv m ac w hr).2 guard_int (by simp only [binOp, Op.shift, if_neg hb]; rfl), .v⟩⟩
    · cases h
    · rename_i hs1 hs2
      rcases cond_some h with ⟨h1, h2⟩ | ⟨_, h2⟩
      · have := of_decide_eq_true h1
        subst this
        obtain ⟨v, hv1, hv2⟩ := binI_ok (P := P) (t := t) h2
        exact ⟨_, hv1, fun m ac w hr => ⟨v, run_bin ho (hxv m ac w hr).1 (hxv m ac w hr).2 guard_int (hv2 w), .v⟩⟩
      · cases h2
  · rename_i a b hx hy
    obtain ⟨v, hv1, hv2⟩ := binS_ok (P := P) (t := t) h
    refine ⟨_, hv1, fun m ac w hr => ?_⟩
    exact ⟨v, run_bin ho (ev_v hr hx) (ev_v hr hy) guard_string (hv2 w), .v⟩
  · rename_i hn1 hn2
    rcases cond_some h with ⟨_, h2⟩ | ⟨hg, h⟩
    · cases h2
    have guard : ∀ {op : BinOp} {c : Bool}, eqB P 40 t (S.ev x) (S.ev y) = some c → ∀ m ac w, Rep w0 N m S ac w → (eqGuard op t x y (ac.eval x) (ac.eval y)).run P w = .ok () w := fun hc m ac w hr => eqGuard_ok hg hc (hr.ev x) (hr.ev y) w
    have key : ∀ {c : Bool}, eqB P 40 t (S.ev x) (S.ev y) = some c → ∀ m ac w, Rep w0 N m S ac w → (Go.Op.equal t (ac.eval x) (ac.eval y)).run P w = .ok c w := fun hc m ac w hr => eqB_ok hc (hr.ev x) (hr.ev y) 10000 (by decide) w
    split at h
    · split at h
      · rename_i c hc
        refine ⟨_, h, fun m ac w hr => ⟨_, run_bin ho rfl rfl (guard hc m ac w hr) ?_, .v⟩⟩
        exact (eqB_bin hn1 hn2 hc (hr.ev x) (hr.ev y) (key hc m ac w hr)).1
      · cases h
    · split at h
      · rename_i c hc
        refine ⟨_, h, fun m ac w hr => ⟨_, run_bin ho rfl rfl (guard hc m ac w hr) ?_, .v⟩⟩
        exact (eqB_bin hn1 hn2 hc (hr.ev x) (hr.ev y) (key hc m ac w hr)).2
      · cases h
    · cases h
end
end Ex
namespace Ex
open Go Go.RowKit
section
variable {P : Program} {w0 : Org} {w : World} {N : Nat} {S : AS} {o : Oper} {ρ : Type} {r : ρ} {ev : Operand → Value} {v : Value}
def opUn (op : UnOp) (x : PV) (κ : PV → Option ρ) : Option ρ := match op, x with
  | .not, .v (.bool b) => κ (.v (.bool (!b)))
  | .neg, .v (.int k n) => κ (.v (.int k (k.wrap (0 - n))))
  | _, _ => none
theorem un_ok {op : UnOp} {x : Operand} {t : TypeId} {κ : PV → Option ρ} (ho : o.op = .unOp op t x) (h : opUn op (S.ev x) κ = some r) : SoundV P w0 N S o κ r := by
  unfold opUn at h
  split at h
  · rename_i b hx
    exact ⟨_, h, fun m a w hr => ⟨_, by unfold execOp; simp only [ho, ev_v hr hx]; rfl, .v⟩⟩
  · rename_i k n hx
    exact ⟨_, h, fun m a w hr => ⟨_, by unfold execOp; simp only [ho, ev_v hr hx]; rfl, .v⟩⟩
  · cases h
def opConv (P : Program) (src dst : TypeId) (x : PV) (κ : PV → Option ρ) : Option ρ := match P.underlying src, P.underlying dst, x with
  | some (.int _), some (.int k), .v (.int _ n) => κ (.v (.int k (k.wrap n)))
  | some .string, some .string, .v (.string s) => κ (.v (.string s))
  | _, _, _ => none
theorem conv_ok {x : Operand} {t t' : TypeId} {κ : PV → Option ρ} (ho : o.op = .convert t t' x) (h : opConv P t t' (S.ev x) κ = some r) : SoundV P w0 N S o κ r := by
  unfold opConv at h
  split at h
  · rename_i k0 k k1 n h1 h2 hx
    refine ⟨_, h, fun m a w hr => ⟨_, run_of (s := convert t t' (a.eval x)) (by unfold execOp; simp only [ho]) ?_, .v⟩⟩
    rw [ev_v hr hx]
    simp only [convert, Sem.run_bind, run_underlying h1, run_underlying h2, Result.andThen_ok]
    rfl
  · rename_i s h1 h2 hx
    refine ⟨_, h, fun m a w hr => ⟨_, run_of (s := convert t t' (a.eval x)) (by unfold execOp; simp only [ho]) ?_, .v⟩⟩
    rw [ev_v hr hx]
    simp only [convert, Sem.run_bind, run_underlying h1, run_underlying h2, Result.andThen_ok]
    rfl
  · cases h
def opExtract (x : PV) (i : Nat) (κ : PV → Option ρ) : Option ρ := match x with
  | .tup vs => match vs[i]? with
    | some p => κ p
    | none => none
  | _ => none
theorem extract_ok {x : Operand} {i : Nat} {κ : PV → Option ρ} (ho : o.op = .extract x i) (h : opExtract (S.ev x) i κ = some r) : SoundV P w0 N S o κ r := by
  unfold opExtract at h
  split at h
  · rename_i vs hx
    split at h
    · rename_i p hp
      refine ⟨_, h, fun m a w hr => ?_⟩
      have h1 := hr.ev x
      rw [hx] at h1
      generalize hz : a.eval x = z at h1
      cases h1 with | tup h1 =>
      obtain ⟨v, hv, hrv⟩ := h1.get hp
      refine ⟨v, run_of (s := Instr.extract (a.eval x) i) (by unfold execOp; simp only [ho]) ?_, hrv⟩
      rw [hz]
      simp [Instr.extract, hv]
    · cases h
  · cases h
def opField (P : Program) (t : TypeId) (x : PV) (i : Nat) (κ : PV → Option ρ) : Option ρ := match x.cells, P.underlying t with
  | some cs, some (.struct fs) => match fs[i]? with
    | some f => match x with
      | .agg _ => match partB P f.type cs f.offset with
        | some p => κ p
        | none => none
      | .v (.agg _) => match partB P f.type cs f.offset with
        | some p => κ p
        | none => none
      | _ => none
    | none => none
  | _, _ => none
theorem field_ok {x : Operand} {t : TypeId} {i : Nat} {κ : PV → Option ρ} (ho : o.op = .field t x i) (h : opField P t (S.ev x) i κ = some r) : SoundV P w0 N S o κ r := by
  unfold opField at h
  split at h
  · rename_i cs fs hc hu
    split at h
    · rename_i f hf
      have key : ∀ p, partB P f.type cs f.offset = some p → (∃ l, S.ev x = .agg l) ∨ (∃ l, S.ev x = .v (.agg l)) → ∀ m a w, Rep w0 N m S a w → ∃ v, (execOp a.eval o).run P w = .ok (.value v) w ∧ RepV m w0.heap.size w p v := fun p hp hx m a w hr => by
        have h1 := hr.ev x
        have h2 := PV.cells_ok h1 hc
        obtain ⟨l, hl⟩ : ∃ l, a.eval x = .agg l := by
          rcases hx with ⟨l, hl⟩ | ⟨l, hl⟩
          · rw [hl] at h1
            generalize a.eval x = z at h1
            cases h1
            exact ⟨_, rfl⟩
          · exact ⟨_, ev_v hr hl⟩
        rw [hl] at h2
        obtain ⟨v, hv, hrv⟩ := partB_ok h2 hp w
        refine ⟨v, run_of (s := Instr.field t (a.eval x) i) (by unfold execOp; simp only [ho]) ?_, hrv⟩
        rw [hl]
        simp only [Instr.field, Sem.run_bind, run_underlying hu, Result.andThen_ok, hf]
        simpa [asAgg, Value.cells] using hv
      split at h
      · rename_i l hx
        split at h
        · rename_i p hp; exact ⟨_, h, key p hp (.inl ⟨_, hx⟩)⟩
        · cases h
      · rename_i l hx
        split at h
        · rename_i p hp; exact ⟨_, h, key p hp (.inr ⟨_, hx⟩)⟩
        · cases h
      · cases h
    · cases h
  · cases h
def PV.moved (x : PV) (n : Nat) : Option PV := match x with
  | .ptr i off => some (.ptr i (off + n))
  | .rptr fr s x off => some (.rptr fr s x (off + n))
  | .eptr i j sz off => some (.eptr i j sz (off + n))
  | .v (.pointer (some a)) => match a with
    | ⟨b, o, none⟩ => some (.v (.pointer (some ⟨b, o + n, none⟩)))
    | _ => none
  | _ => none
theorem moved_ok {m : Nm} {B0 : Nat} {x p : PV} {n : Nat} {v : Value} (h : x.moved n = some p) (hx : RepV m B0 w x v) : ∃ b off, v = .pointer (some ⟨b, off, none⟩) ∧ RepV m B0 w p (.pointer (some ⟨b, off + n, none⟩)) := by
  unfold PV.moved at h
  split at h
  · cases h; cases hx; exact ⟨_, _, rfl, .ptr⟩
  · cases h; cases hx with | rptr hx => exact ⟨_, _, rfl, by rw [Nat.add_assoc]; exact .rptr hx⟩
  · cases h; cases hx with | eptr hx h0 h1 => exact ⟨_, _, rfl, by rw [Nat.add_assoc]; exact .eptr hx h0 h1⟩
  · split at h
    · cases h; cases hx; exact ⟨_, _, rfl, .v⟩
    · cases h
  · cases h
def opFieldAddr (P : Program) (t : TypeId) (x : PV) (i : Nat) (κ : PV → Option ρ) : Option ρ := match P.underlying t with
  | some (.struct fs) => match fs[i]? with
    | some f => match sizeB P f.type with
      | some sz => bif Nat.beq sz 0 then none else match x.moved f.offset with
        | some p => κ p
        | none => none
      | none => none
    | none => none
  | _ => none
theorem fieldAddr_ok {x : Operand} {t : TypeId} {i : Nat} {κ : PV → Option ρ} (ho : o.op = .fieldAddr t x i) (h : opFieldAddr P t (S.ev x) i κ = some r) : SoundV P w0 N S o κ r := by
  unfold opFieldAddr at h
  split at h
  · rename_i fs hu
    split at h
    · rename_i f hf
      split at h
      · rename_i sz hs
        rcases cond_some h with ⟨_, h2⟩ | ⟨hz, h⟩
        · cases h2
        split at h
        · rename_i p hp
          refine ⟨_, h, fun m a w hr => ?_⟩
          obtain ⟨b, off, hv, hrv⟩ := moved_ok hp (hr.ev x)
          have hz' : sz ≠ 0 := Nat.ne_of_beq_eq_false hz
          refine ⟨_, run_of (s := Instr.fieldAt t (a.eval x) i) (by unfold execOp; simp only [ho]) ?_, hrv⟩
          rw [hv]
          simp only [Instr.fieldAt, Instr.sureAddr, Sem.run_bind, run_underlying hu, Result.andThen_ok, hf, Sem.run_pure, fieldPlace, sizeB_ok hs, if_neg hz', Addr.add_mid]
        · cases h
      · cases h
    · cases h
  · cases h
theorem evs_ok {m : Nm} {a : Act} (hr : Rep w0 N m S a w) : ∀ l : List Operand, RepVs m w0.heap.size w (l.map S.ev) (l.map a.eval)
  | [] => .nil
  | x :: l => .cons (hr.ev x) (evs_ok hr l)
def opFunc (S : AS) (fn : Fn) (first caps : Array Operand) (κ : PV → Option ρ) : Option ρ := match fn with
  | .func f => bif first.isEmpty then κ (.fn f (caps.toList.map S.ev)) else none
  | _ => none
theorem func_ok {fn : Fn} {first caps : Array Operand} {κ : PV → Option ρ} (ho : o.op = .makeFunc fn first caps) (h : opFunc S fn first caps κ = some r) : SoundV P w0 N S o κ r := by
  unfold opFunc at h
  split at h
  · rename_i f
    rcases cond_some h with ⟨he, h⟩ | ⟨_, h2⟩
    · refine ⟨_, h, fun m a w hr => ⟨.func (.func f) #[] (caps.toList.map a.eval).toArray, ?_, .fn (evs_ok hr _)⟩⟩
      have he' : first = #[] := by simpa using he
      refine run_of (s := Instr.makeFunc (.func f) (first.map a.eval) (caps.map a.eval)) (by unfold execOp; simp only [ho]) ?_
      subst he'
      have : caps.map a.eval = (caps.toList.map a.eval).toArray := by
        apply Array.ext'
        simp
      rw [this]
      simp [Instr.makeFunc]
    · cases h2
  · cases h
def opNil (x : PV) (κ : PV → Option ρ) : Option ρ := match x with
  | .ptr _ _ => κ x
  | .rptr _ _ _ _ => κ x
  | .eptr _ _ _ _ => κ x
  | .fn _ _ => κ x
  | .v (.pointer (some _)) => κ x
  | _ => none
theorem nil_ok {x : Operand} {κ : PV → Option ρ} (ho : o.op = .nilCheck x) (h : opNil (S.ev x) κ = some r) : SoundV P w0 N S o κ r := by
  have key : ∀ m a w, Rep w0 N m S a w → (∃ ad, a.eval x = .pointer (some ad)) ∨ (∃ f cs, a.eval x = .func (.func f) #[] cs) → (execOp a.eval o).run P w = .ok (.value (a.eval x)) w := fun m a w hr hx => by
    unfold execOp
    simp only [ho]
    rcases hx with ⟨ad, hx⟩ | ⟨f, cs, hx⟩ <;> rw [hx] <;> rfl
  unfold opNil at h
  split at h
  · rename_i hx
    refine ⟨_, h, fun m a w hr => ⟨_, key m a w hr ?_, hr.ev x⟩⟩
    have h1 := hr.ev x
    rw [hx] at h1
    generalize a.eval x = z at h1 ⊢
    cases h1
    exact .inl ⟨_, rfl⟩
  · rename_i hx
    refine ⟨_, h, fun m a w hr => ⟨_, key m a w hr ?_, hr.ev x⟩⟩
    have h1 := hr.ev x
    rw [hx] at h1
    generalize a.eval x = z at h1 ⊢
    cases h1
    exact .inl ⟨_, rfl⟩
  · rename_i hx
    refine ⟨_, h, fun m a w hr => ⟨_, key m a w hr ?_, hr.ev x⟩⟩
    have h1 := hr.ev x
    rw [hx] at h1
    generalize a.eval x = z at h1 ⊢
    cases h1
    exact .inl ⟨_, rfl⟩
  · rename_i hx
    refine ⟨_, h, fun m a w hr => ⟨_, key m a w hr ?_, hr.ev x⟩⟩
    have h1 := hr.ev x
    rw [hx] at h1
    generalize a.eval x = z at h1 ⊢
    cases h1
    exact .inr ⟨_, _, rfl⟩
  · rename_i hx
    refine ⟨_, h, fun m a w hr => ⟨_, key m a w hr (.inl ⟨_, ev_v hr hx⟩), hr.ev x⟩⟩
  · cases h
def fillB (place : Nat → Option (Nat × Nat)) (cells : List PV) : List (Nat × PV) → Option (List PV)
  | [] => some cells
  | e :: rest => match place e.1, e.2.cells with
    | some (off, size), some vc => bif Nat.beq vc.length size && Nat.ble (off + vc.length) cells.length then fillB place (cells.take off ++ (vc ++ cells.drop (off + vc.length))) rest else none
    | _, _ => none
theorem set_take (l : List Value) (n : Nat) (c : Value) (h : n < l.length) : (l.set n c).take (n + 1) = l.take n ++ [c] := by
  rw [List.set_eq_take_append_cons_drop, if_pos h, List.take_append]
  simp [Nat.min_eq_left (Nat.le_of_lt h), List.take_take]
theorem foldl_set (off : Nat) : ∀ (vc : List Value) (j : Nat) (cells : Array Value), off + j + vc.length ≤ cells.toList.length → ((vc.zipIdx j).foldl (fun cs (c, j) => cs.setIfInBounds (off + j) c) cells).toList = cells.toList.take (off + j) ++ (vc ++ cells.toList.drop (off + j + vc.length))
  | [], j, cells, h => by simp
  | c :: vc, j, cells, h => by
    simp only [List.length_cons] at h
    have hlt : off + j < cells.toList.length := by omega
    rw [List.zipIdx_cons, List.foldl_cons, foldl_set off vc (j + 1) _ (by rw [Array.toList_setIfInBounds, List.length_set]; omega)]
    rw [Array.toList_setIfInBounds, ← Nat.add_assoc, set_take _ _ _ hlt, List.drop_set_of_lt (by omega)]
    simp only [List.append_assoc, List.length_cons, List.cons_append, List.nil_append]
    congr 4
    omega
theorem fillB_ok {m : Nm} {B0 : Nat} {place : Nat → Option (Nat × Nat)} : ∀ {ps : List (Nat × PV)} {vps : List (Nat × Value)} {cells out : List PV} {vs : List Value}, fillB place cells ps = some out → RepVs m B0 w cells vs → ps.map (·.1) = vps.map (·.1) → RepVs m B0 w (ps.map (·.2)) (vps.map (·.2)) → ∃ us, Instr.fill place vs.toArray vps = some us.toArray ∧ RepVs m B0 w out us
  | [], vps, cells, out, vs, h, hc, hm, hp => by
    have : vps = [] := by simpa using hm.symm
    subst this
    simp only [fillB, Option.some.injEq] at h
    subst h
    exact ⟨vs, rfl, hc⟩
  | e :: ps, vps, cells, out, vs, h, hc, hm, hp => by
    cases vps with
    | nil => simp at hm
    | cons e' vps =>
      obtain ⟨i, p⟩ := e
      obtain ⟨i', v⟩ := e'
      simp only [List.map_cons, List.cons.injEq] at hm hp
      obtain ⟨rfl, hm⟩ := hm
      cases hp with | cons hv hp =>
      simp only [fillB] at h
      split at h
      · rename_i off size vc hpl hvc
        rcases cond_some h with ⟨hb, h⟩ | ⟨_, h2⟩
        · rw [Bool.and_eq_true] at hb
          have hb1 := Nat.eq_of_beq_eq_true hb.1
          have hb2 := Nat.le_of_ble_eq_true hb.2
          have hcv := PV.cells_ok hv hvc
          have hl := hcv.len
          have hlc := hc.len
          simp only [Array.length_toList] at hl
          have hset := foldl_set off v.cells.toList 0 vs.toArray (by simp; omega)
          simp only [Nat.add_zero] at hset
          have hzip : (v.cells.zipIdx.foldl (fun cs (c, j) => cs.setIfInBounds (off + j) c) vs.toArray) = (vs.take off ++ (v.cells.toList ++ vs.drop (off + v.cells.toList.length))).toArray := by
            apply Array.ext'
            rw [← Array.foldl_toList, Array.toList_zipIdx]
            exact hset
          obtain ⟨us, h1, h2⟩ := fillB_ok (vs := vs.take off ++ (v.cells.toList ++ vs.drop (off + v.cells.toList.length))) h (by
            rw [hcv.len]
            exact (hc.take _).append (hcv.append (hc.drop _))) hm hp
          refine ⟨us, ?_, h2⟩
          simp only [Instr.fill, hpl]
          rw [if_neg (by simp; omega), hzip]
          exact h1
        · cases h2
      · cases h
end
end Ex
namespace Ex
open Go Go.RowKit
section
variable {P : Program} {w0 : Org} {w : World} {N : Nat} {S : AS} {o : Oper} {ρ : Type} {r : ρ} {ev : Operand → Value} {v : Value}
def buildB (P : Program) (t : TypeId) (parts : List (Nat × PV)) : Option (List PV) := match P.info? t, P.underlying t with
  | some it, some (.array _ e) => match it.zero, P.info? e with
    | some z, some ie => fillB (fun i => some (i * ie.size, ie.size)) (z.cells.toList.map .v) parts
    | _, _ => none
  | some it, some (.struct fields) => match it.zero, fields.toList.mapM (fun f => (P.info? f.type).map fun i => (f.offset, i.size)) with
    | some z, some places => fillB (places.toArray[·]?) (z.cells.toList.map .v) parts
    | _, _ => none
  | _, _ => none
theorem buildB_ok {m : Nm} {B0 : Nat} {t : TypeId} {ps : List (Nat × PV)} {vps : List (Nat × Value)} {out : List PV} (h : buildB P t ps = some out) (hm : ps.map (·.1) = vps.map (·.1)) (hp : RepVs m B0 w (ps.map (·.2)) (vps.map (·.2))) : ∃ us : List Value, P.built t vps = some us.toArray ∧ RepVs m B0 w out us := by
  unfold buildB at h
  unfold Program.built
  split at h
  · rename_i it n e hit hu
    split at h
    · rename_i z ie hz hie
      obtain ⟨us, h1, h2⟩ := fillB_ok h (RepVs.exact (m := m) (B0 := B0) (w := w) z.cells.toList) hm hp
      exact ⟨us, by simpa [hit, hu, hz, hie] using h1, h2⟩
    · cases h
  · rename_i it fields hit hu
    split at h
    · rename_i z places hz hpl
      obtain ⟨us, h1, h2⟩ := fillB_ok h (RepVs.exact (m := m) (B0 := B0) (w := w) z.cells.toList) hm hp
      exact ⟨us, by simpa [hit, hu, hz, hpl] using h1, h2⟩
    · cases h
  · cases h
def opBuild (P : Program) (S : AS) (t : TypeId) (parts : Array (Nat × Operand)) (κ : PV → Option ρ) : Option ρ := match buildB P t (parts.toList.map fun e => (e.1, S.ev e.2)) with
  | some cs => κ (.agg cs)
  | none => none
theorem evps_ok {m : Nm} {a : Act} (hr : Rep w0 N m S a w) : ∀ l : List (Nat × Operand), RepVs m w0.heap.size w ((l.map fun e => (e.1, S.ev e.2)).map (·.2)) ((l.map fun e => (e.1, a.eval e.2)).map (·.2))
  | [] => .nil
  | x :: l => .cons (hr.ev x.2) (evps_ok hr l)
theorem build_ok {t : TypeId} {parts : Array (Nat × Operand)} {κ : PV → Option ρ} (ho : o.op = .build t parts) (h : opBuild P S t parts κ = some r) : SoundV P w0 N S o κ r := by
  unfold opBuild at h
  split at h
  · rename_i cs hc
    refine ⟨_, h, fun m a w hr => ?_⟩
    obtain ⟨us, h1, h2⟩ := buildB_ok (vps := parts.toList.map fun e => (e.1, a.eval e.2)) hc (by simp) (evps_ok hr _)
    refine ⟨.agg us.toArray, run_of (s := Instr.build t (parts.map fun (i, x) => (i, a.eval x))) (by unfold execOp; simp only [ho]) ?_, .agg h2⟩
    refine run_build w t _ _ ?_
    simpa using h1
  · cases h
def rowLen (S : AS) (x : PV) : Option Nat := match x with
  | .row _ _ l => some l.length
  | .own i => match S.σ i with
    | .own _ _ _ l => some l.length
    | _ => none
  | .v (.slice none n c) => some n
  | _ => none
theorem rowLen_ok {m : Nm} {a : Act} {x : PV} {v : Value} {n : Nat} (hr : Rep w0 N m S a w) (hx : RepV m w0.heap.size w x v) (h : rowLen S x = some n) : ∃ A c, v = .slice A n c := by
  unfold rowLen at h
  split at h
  · cases h
    cases hx with | row hx =>
    simp only [SKIs] at hx
    obtain ⟨A, c, rfl, _⟩ := hx
    exact ⟨A, c, rfl⟩
  · rename_i i
    split at h
    · rename_i fr T s l hσ
      cases h
      cases hx with | own hx =>
      have hb := hr.heap.blk i
      rw [hσ] at hb
      obtain ⟨xs, ho, _⟩ := hb
      rcases ho.2 with ⟨h1, h2⟩ | ⟨g, cap, cur, h1, _⟩
      · rw [hx] at h1
        cases h1
        rw [h2]
        exact ⟨_, _, rfl⟩
      · rw [hx] at h1
        cases h1
        exact ⟨_, _, rfl⟩
    · cases h
  · cases h
    cases hx
    exact ⟨_, _, rfl⟩
  · cases h
def opLen (P : Program) (S : AS) (t : TypeId) (x : PV) (κ : PV → Option ρ) : Option ρ := match P.underlying t with
  | some (.slice _) => match rowLen S x with
    | some n => κ (.v (.int .i64 (n : Int)))
    | none => none
  | some .string => match x with
    | .v (.string s) => κ (.v (.int .i64 (s.size : Int)))
    | _ => none
  | some (.array n _) => κ (.v (.int .i64 (n : Int)))
  | _ => none
theorem len_ok {x : Operand} {t : TypeId} {ts : Array TypeId} {κ : PV → Option ρ} (ho : o.op = .call { callee := .builtin .len, args := #[x], argTypes := ts }) (ht : ts[0]? = some t) (h : opLen P S t (S.ev x) κ = some r) : SoundV P w0 N S o κ r := by
  unfold opLen at h
  split at h
  · rename_i e hu
    split at h
    · rename_i n hn
      refine ⟨_, h, fun m a w hr => ⟨_, ?_, .v⟩⟩
      obtain ⟨A, c, hv⟩ := rowLen_ok hr (hr.ev x) hn
      unfold execOp
      simp only [ho]
      simp [resolve, invoke, builtin, Builtin.len_, ht, hv, Sem.run_bind, run_underlying hu, goInt]
    · cases h
  · rename_i hu
    split at h
    · rename_i s hx
      refine ⟨_, h, fun m a w hr => ⟨_, ?_, .v⟩⟩
      unfold execOp
      simp only [ho]
      simp [resolve, invoke, builtin, Builtin.len_, ht, ev_v hr hx, Sem.run_bind, run_underlying hu, goInt]
    · cases h
  · rename_i n e hu
    refine ⟨_, h, fun m a w hr => ⟨_, ?_, .v⟩⟩
    unfold execOp
    simp only [ho]
    simp [resolve, invoke, builtin, Builtin.len_, ht, Sem.run_bind, run_underlying hu, goInt]
  · cases h
def opMin (gt : Bool) (x y : PV) (κ : PV → Option ρ) : Option ρ := match x, y with
  | .v (.int k a), .v (.int k' b) => bif gt then κ (.v (.int k (mx a b))) else κ (.v (.int k (mn a b)))
  | _, _ => none
theorem min_ok {x y : Operand} {ts : Array TypeId} {gt : Bool} {κ : PV → Option ρ} (ho : o.op = .call { callee := .builtin (if gt then .max else .min), args := #[x, y], argTypes := ts }) (h : opMin gt (S.ev x) (S.ev y) κ = some r) : SoundV P w0 N S o κ r := by
  unfold opMin at h
  split at h
  · rename_i k a k' b hx hy
    rcases cond_some h with ⟨rfl, h⟩ | ⟨rfl, h⟩
    · refine ⟨_, h, fun m ac w hr => ⟨_, ?_, .v⟩⟩
      unfold execOp
      simp only [ho, if_true]
      simp [resolve, invoke, builtin, Builtin.max_, Builtin.max2, ev_v hr hx, ev_v hr hy, Sem.run_bind, mx]
    · refine ⟨_, h, fun m ac w hr => ⟨_, ?_, .v⟩⟩
      unfold execOp
      simp only [ho]
      simp [resolve, invoke, builtin, Builtin.min_, Builtin.min2, ev_v hr hx, ev_v hr hy, Sem.run_bind, mn]
  · cases h
mutual
def cellK (fr : Bool) : (k : SK) → k.ty → PV
  | .int k, n => .v (.int k n)
  | .bool, b => .v (.bool b)
  | .str, s => .v (.string s)
  | .row s, l => .row fr s l
  | .ptr s, x => .rptr fr s x 0
  | .adr, x => .v (.pointer (some ⟨x.1, x.2, none⟩))
  | .fnc f, _ => .fn f []
def cellsT (fr : Bool) : (s : List SK) → Tup s → List PV
  | [] => fun _ => []
  | k :: r => match r with
    | [] => fun x => [cellK fr k x]
    | k' :: r' => fun x => cellK fr k x.1 :: cellsT fr (k' :: r') x.2
end
theorem cellK_ok {m : Nm} {B0 : Nat} {fr : Bool} {k : SK} {x : k.ty} {v : Value} (h : SKIs (okOf m B0 fr) w k x v) : RepV m B0 w (cellK fr k x) v := by
  cases k with
  | int k => simp only [SKIs] at h; subst h; simp only [cellK]; exact .v
  | bool => simp only [SKIs] at h; subst h; simp only [cellK]; exact .v
  | str => simp only [SKIs] at h; subst h; simp only [cellK]; exact .v
  | row s => simp only [cellK]; exact .row h
  | ptr s =>
    have h0 := h
    simp only [SKIs] at h
    obtain ⟨b, o, cs, rfl, _⟩ := h
    simp only [cellK]
    exact .rptr h0
  | adr => simp only [SKIs] at h; subst h; simp only [cellK]; exact .v
  | fnc f => simp only [SKIs] at h; subst h; simp only [cellK]; exact .fn .nil
theorem cellsT_ok {m : Nm} {B0 : Nat} {fr : Bool} : ∀ {s : List SK} {x : Tup s} {vs : List Value}, TupIs (okOf m B0 fr) w s x vs → RepVs m B0 w (cellsT fr s x) vs
  | [], x, vs, h => by
    simp only [TupIs] at h
    subst h
    simp only [cellsT]
    exact .nil
  | [k], x, vs, h => by
    simp only [TupIs] at h
    obtain ⟨u, rfl, h⟩ := h
    simp only [cellsT]
    exact .cons (cellK_ok h) .nil
  | k :: k' :: r, x, vs, h => by
    simp only [TupIs] at h
    obtain ⟨u, us, rfl, h1, h2⟩ := h
    simp only [cellsT]
    exact .cons (cellK_ok h1) (cellsT_ok h2)
theorem CellsAt.range {b o : Nat} {cs : List Value} (h : CellsAt w b o cs) : w.rangeAt b o cs := h
theorem load_cells {m : Nm} {B0 : Nat} {t : TypeId} {cs : List PV} {vs : List Value} {b o off : Nat} {p : PV} (h : RepVs m B0 w cs vs) (hc : CellsAt w b o vs) (hp : partB P t cs off = some p) : ∃ v, (Instr.loadAt t (.pointer (some ⟨b, o + off, none⟩))).run P w = .ok v w ∧ RepV m B0 w p v := by
  unfold partB at hp
  cases ha : aggB P t with
  | none => rw [ha] at hp; cases hp
  | some bb =>
    rw [ha] at hp
    cases bb with
    | true =>
      simp only at hp
      cases hs : sizeB P t with
      | none => rw [hs] at hp; cases hp
      | some n =>
        rw [hs] at hp
        cases hble : Nat.ble (off + n) cs.length with
        | false => simp [hble] at hp
        | true =>
        simp only [hble, cond_true, Option.some.injEq] at hp
        subst hp
        have hle := Nat.le_of_ble_eq_true hble
        have hlv := h.len
        have hl : ((vs.drop off).take n).length = n := by rw [List.length_take, List.length_drop]; omega
        refine ⟨_, ?_, .agg ((h.drop off).take n)⟩
        obtain ⟨d, hu, hrow⟩ : ∃ d, P.underlying t = some d ∧ d.isRow = true := by
          unfold aggB at ha
          cases hu : P.underlying t with
          | none => rw [hu] at ha; cases ha
          | some d => rw [hu] at ha; exact ⟨d, rfl, by cases d <;> simp_all <;> rfl⟩
        refine run_loadAt_mid w b (o + off) t _ d (fun j v hv => ?_) hu hrow (by rw [hl]; exact hs)
        have hj : j < ((vs.drop off).take n).length := (List.getElem?_eq_some_iff.1 hv).1
        rw [List.getElem?_take_of_lt (by omega), List.getElem?_drop] at hv
        have := hc (off + j) v hv
        rwa [← Nat.add_assoc] at this
    | false =>
      simp only at hp
      obtain ⟨v, hv, hr⟩ := h.get hp
      refine ⟨v, ?_, hr⟩
      have hcc := hc off v hv
      simp only [Instr.loadAt, Instr.sureAddr, loadVar, Sem.run_bind, Sem.run_pure, Result.andThen_ok, aggB_ok ha, Bool.false_eq_true, if_false, load, Sem.run, hcc]
theorem CellsAt.of_block {b : Nat} {vs : List Value} {T : TypeId} (h : w.heap[b]? = some (.cells vs.toArray T (0, 0))) : CellsAt w b 0 vs := fun j u hu => by
  simp [World.cell?, h, hu]
def opLoad (P : Program) (S : AS) (t : TypeId) (x : PV) (κ : PV → Option ρ) : Option ρ := match x with
  | .ptr i off => match S.σ i with
    | .box _ cs => match partB P t cs off with
      | some p => κ p
      | none => none
    | _ => none
  | .rptr fr s d off => match partB P t (cellsT fr s d) off with
    | some p => κ p
    | none => none
  | .eptr i j sz off => match S.σ i with
    | .own fr _ s l => bif Nat.beq sz s.length then match partB P t (cellsT fr s (l.getD j.toNat (zT s))) off with
      | some p => κ p
      | none => none else none
    | _ => none
  | _ => none
theorem own_cells {B0 : Nat} {T : TypeId} {s : List SK} {l : List (Tup s)} {xs : List Value} {g n c : Nat} {v : Value} {j : Nat} {ok : Nat → Prop} (h : w.ownsRow B0 T s.length v l.length xs) (hR : RowsIs ok w s l xs) (hv : v = .slice (some ⟨g, 0, none⟩) n c) (hj : j < n) :
    n = l.length ∧ CellsAt w g (j * s.length) ((xs.drop (j * s.length)).take s.length) ∧ TupIs ok w s (l.getD j (zT s)) ((xs.drop (j * s.length)).take s.length) := by
  have hn : n = l.length := by
    rcases h.2 with ⟨h1, h2⟩ | ⟨g', cap, cur, h1, _⟩
    · rw [hv] at h1; cases h1
    · rw [hv] at h1; cases h1; rfl
  subst hn
  refine ⟨rfl, fun k u hu => ?_, ?_⟩
  · have hk : k < s.length := by
      have := (List.getElem?_eq_some_iff.1 hu).1
      rw [List.length_take] at this
      omega
    rw [List.getElem?_take_of_lt hk, List.getElem?_drop] at hu
    have := h.cells (g := g) (by rw [hv]; rfl) _ _ hu
    rwa [Addr.add_mid, Nat.zero_add] at this
  · have := hR j (l[j]) (List.getElem?_eq_getElem hj)
    rw [List.getD_eq_getElem?_getD, List.getElem?_eq_getElem hj]
    exact this
theorem load_ok {x : Operand} {t : TypeId} {κ : PV → Option ρ} (ho : o.op = .load t x) (h : opLoad P S t (S.ev x) κ = some r) : SoundV P w0 N S o κ r := by
  unfold opLoad at h
  split at h
  · rename_i i off hx
    split at h
    · rename_i T cs hσ
      split at h
      · rename_i p hp
        refine ⟨_, h, fun m a w hr => ?_⟩
        have h1 := hr.ev x
        rw [hx] at h1
        generalize hz : a.eval x = z at h1
        cases h1
        have hb := hr.heap.blk i
        rw [hσ] at hb
        obtain ⟨_, _, vs, hvs, hh⟩ := hb
        obtain ⟨v, h2, h3⟩ := load_cells hvs (CellsAt.of_block hh) hp
        rw [Nat.zero_add] at h2
        exact ⟨v, run_of (s := Instr.loadAt t (a.eval x)) (by unfold execOp; simp only [ho]) (by rw [hz]; exact h2), h3⟩
      · cases h
    · cases h
  · rename_i fr s d off hx
    split at h
    · rename_i p hp
      refine ⟨_, h, fun m a w hr => ?_⟩
      have h1 := hr.ev x
      rw [hx] at h1
      generalize hz : a.eval x = z at h1
      cases h1 with | rptr h1 =>
      simp only [SKIs] at h1
      obtain ⟨b, o', cs, he, hok, hl, hcs, ht⟩ := h1
      cases he
      obtain ⟨v, h2, h3⟩ := load_cells (cellsT_ok ht) hcs hp
      exact ⟨v, run_of (s := Instr.loadAt t (a.eval x)) (by unfold execOp; simp only [ho]) (by rw [hz]; exact h2), h3⟩
    · cases h
  · rename_i i j sz off hx
    split at h
    · rename_i fr T s l hσ
      rcases cond_some h with ⟨hsz, hh⟩ | ⟨_, h2⟩
      · clear h
        split at hh
        · rename_i p hp
          have := Nat.eq_of_beq_eq_true hsz
          subst this
          refine ⟨_, hh, fun m a w hr => ?_⟩
          have h1 := hr.ev x
          rw [hx] at h1
          generalize hz : a.eval x = z at h1
          cases h1 with | eptr hv h0 hj =>
          have hb := hr.heap.blk i
          rw [hσ] at hb
          obtain ⟨xs, how, hR, _⟩ := hb
          obtain ⟨_, hc, ht⟩ := own_cells (j := j.toNat) how hR hv (by omega)
          obtain ⟨v, h2, h3⟩ := load_cells (cellsT_ok ht) hc hp
          exact ⟨v, run_of (s := Instr.loadAt t (a.eval x)) (by unfold execOp; simp only [ho]) (by rw [hz]; exact h2), h3⟩
        · cases hh
      · cases h2
    · cases h
  · cases h
end
end Ex
namespace Ex
open Go Go.RowKit
theorem own_move' {w w1 : World} {base : Nat} {e : TypeId} {size n : Nat} {v : Value} {xs : List Value} (h : w.ownsRow base e size v n xs) (hm : ∀ k, v.ownBlock = some k → w1.heap[k]? = w.heap[k]?) : w1.ownsRow base e size v n xs := by
  obtain ⟨h1, h2⟩ := h
  refine ⟨h1, ?_⟩
  rcases h2 with h2 | ⟨g, cap, cur, rfl, hg, hh, r⟩
  · exact .inl h2
  · exact .inr ⟨g, cap, cur, rfl, hg, (hm g (by simp [Value.ownBlock])).trans hh, r⟩
theorem RowsIs.move {ok ok' : Nat → Prop} {w w' : World} {s : List SK} {l : List (Tup s)} {xs : List Value} (hs : Stays ok ok' w w') (h : RowsIs ok w s l xs) : RowsIs ok' w' s l xs := fun i x hx => TupIs.move hs (h i x hx)
theorem BlkIs.move {p : Nat → Bool} {m m' : Nm} {B0 : Nat} {w w' : World} {i : Nat} {b : ABlk} (hg : Grows p m m' w w') (hi : b.ids p = true) (hp : b = .no ∨ p i = true) (hk : ∀ k, blkOf m i b k → w'.heap[k]? = w.heap[k]? ∧ ¬ m'.F k) (h : BlkIs m B0 w i b) : BlkIs m' B0 w' i b := by
  cases b with
  | no => trivial
  | box T cs =>
    obtain ⟨h1, h2, vs, h3, h4⟩ := h
    have hpi : p i = true := hp.resolve_left (by simp)
    have hk' := hk _ rfl
    simp only [BlkIs]
    rw [hg.b i hpi]
    exact ⟨h1, hk'.2, vs, RepVs.move hg h3 hi, hk'.1.trans h4⟩
  | own fr T s l =>
    obtain ⟨xs, h1, h2, h3⟩ := h
    have hpi : p i = true := hp.resolve_left (by simp)
    simp only [BlkIs]
    rw [hg.v i hpi]
    exact ⟨xs, own_move' h1 (fun k hq => (hk k hq).1), RowsIs.move (hg.ok _ _) h2, fun k hq => (hk k hq).2⟩
  | mset l =>
    obtain ⟨h1, h2, es, cl, h3, h4⟩ := h
    have hpi : p i = true := hp.resolve_left (by simp)
    have hk' := hk _ rfl
    simp only [BlkIs]
    rw [hg.b i hpi]
    exact ⟨h1, hk'.2, es, cl, hk'.1.trans h3, h4⟩
  | obj n x j =>
    obtain ⟨h1, h2⟩ := h
    have hpi : p i = true := hp.resolve_left (by simp)
    simp only [BlkIs]
    rw [hg.b i hpi, hg.v j hi]
    refine ⟨fun k hf => ⟨(h1 k hf).1, ?_, (hk k hf).2⟩, OIs_move h2 (fun k hf => (hk k hf).1) hg.F⟩
    have h3 := (hk k hf).1
    rw [Array.getElem?_eq_getElem (h1 k hf).2.1] at h3
    exact (Array.getElem?_eq_some_iff.1 h3).1
theorem blkOf.same {p : Nat → Bool} {m m' : Nm} {w w' : World} {i : Nat} {b : ABlk} (hg : Grows p m m' w w') (hi : b.ids p = true) (hp : b = .no ∨ p i = true) : blkOf m' i b = blkOf m i b := by
  cases b with
  | no => rfl
  | box T cs => simp only [blkOf]; rw [hg.b i (hp.resolve_left (by simp))]
  | mset l => simp only [blkOf]; rw [hg.b i (hp.resolve_left (by simp))]
  | own fr T s l => simp only [blkOf]; rw [hg.v i (hp.resolve_left (by simp))]
  | obj n x j => simp only [blkOf]; rw [hg.v j hi]
theorem blk_lt {w0 : Org} {w : World} {m : Nm} {σ : Nat → ABlk} (h : Heap w0 m σ w) {i k : Nat} (hk : blkOf m i (σ i) k) : k < w.heap.size ∧ ¬ m.F k ∧ w0.heap.size ≤ k := by
  have hb := h.blk i
  cases hσ : σ i with
  | no => rw [hσ] at hk; cases hk
  | box T cs =>
    rw [hσ] at hk hb
    cases hk
    obtain ⟨h1, h2, vs, h3, h4⟩ := hb
    exact ⟨(Array.getElem?_eq_some_iff.1 h4).1, h2, h1⟩
  | mset l =>
    rw [hσ] at hk hb
    cases hk
    obtain ⟨h1, h2, es, cl, h3, h4⟩ := hb
    exact ⟨(Array.getElem?_eq_some_iff.1 h3).1, h2, h1⟩
  | own fr T s l =>
    rw [hσ] at hk hb
    obtain ⟨xs, h1, h2, h3⟩ := hb
    have := h1.lt k hk
    exact ⟨this.2, h3 k hk, this.1⟩
  | obj n x j =>
    rw [hσ] at hk hb
    obtain ⟨h1, h2⟩ := hb
    have := h1 k hk
    exact ⟨this.2.1, this.2.2, this.1⟩
theorem Heap.step {w0 : Org} {w w' : World} {m m' : Nm} {σ σ' : Nat → ABlk} {p : Nat → Bool} (U : Nat → Prop) (h : Heap w0 m σ w) (hg : Grows p m m' w w') (hids : ∀ i, (σ i).ids p = true) (hp : ∀ i, ¬ U i → σ' i = σ i ∧ (σ i = .no ∨ p i = true))
    (hst : ∀ i k, ¬ U i → blkOf m i (σ i) k → w'.heap[k]? = w.heap[k]? ∧ ¬ m'.F k) (hU : ∀ i, U i → BlkIs m' w0.heap.size w' i (σ' i))
    (hap : ∀ i j k, i ≠ j → U i → blkOf m' i (σ' i) k → blkOf m' j (σ' j) k → False) (hF : ∀ k, m'.F k → k < w'.heap.size) (hb : Below w0.heap.size w0.toWorld w') : Heap w0 m' σ' w' := by
  refine ⟨fun i => ?_, fun i j k hij hi hj => ?_, hF, hb, fun k ob hk => ⟨(hg.F k (h.kept k ob hk).1).1, (hg.F k (h.kept k ob hk).1).2.trans (h.kept k ob hk).2⟩⟩
  · by_cases hu : U i
    · exact hU i hu
    · obtain ⟨h1, h2⟩ := hp i hu
      rw [h1]
      exact BlkIs.move hg (hids i) h2 (fun k hk => hst i k hu hk) (h.blk i)
  · by_cases hui : U i
    · exact hap i j k hij hui hi hj
    · by_cases huj : U j
      · exact hap j i k (Ne.symm hij) huj hj hi
      · obtain ⟨h1, h2⟩ := hp i hui
        obtain ⟨h3, h4⟩ := hp j huj
        rw [h1, blkOf.same hg (hids i) h2] at hi
        rw [h3, blkOf.same hg (hids j) h4] at hj
        exact h.apart i j k hij hi hj
theorem Fresh.p {id0 : Nat} {s : AS} (h : Fresh id0 s) (i : Nat) : s.σ i = .no ∨ old id0 i = true := by
  cases ho : old id0 i with
  | true => exact .inr rfl
  | false => exact .inl (h.no i ho)
theorem old_new {id0 k : Nat} (hk : k < 8) : old id0 (id0 + k) = false := by
  unfold old
  have h1 : Nat.blt (id0 + k) id0 = false := by
    cases h : Nat.blt (id0 + k) id0 with
    | false => rfl
    | true => have := Nat.le_of_ble_eq_true h; omega
  have h2 : Nat.ble (id0 + 8) (id0 + k) = false := by
    cases h : Nat.ble (id0 + 8) (id0 + k) with
    | false => rfl
    | true => have := Nat.le_of_ble_eq_true h; omega
  rw [h1, h2]; rfl
theorem old_ne {id0 k i : Nat} (hk : k < 8) (h : old id0 i = true) : i ≠ id0 + k := fun e => by
  rw [e, old_new hk] at h
  cases h
theorem updσ_one (σ : Nat → ABlk) (i : Nat) (b : ABlk) (j : Nat) : updσ σ [(i, b)] j = if j = i then b else σ j := by
  show (bif Nat.beq j i then b else σ j) = _
  by_cases h : j = i
  · subst h; simp
  · have hb : Nat.beq j i = false := by
      cases hq : Nat.beq j i with
      | true => exact absurd (Nat.eq_of_beq_eq_true hq) h
      | false => rfl
    simp [hb, h]
def setAt {α : Type} (f : Nat → α) (i : Nat) (x : α) : Nat → α := fun j => if j = i then x else f j
theorem setAt_self {α : Type} (f : Nat → α) (i : Nat) (x : α) : setAt f i x i = x := by simp [setAt]
theorem setAt_ne {α : Type} {f : Nat → α} {i j : Nat} {x : α} (h : j ≠ i) : setAt f i x j = f j := by simp [setAt, h]
theorem Heap.newbox {w0 : Org} {w : World} {m : Nm} {s : AS} {id0 : Nat} {T : TypeId} {cs : List PV} {vs : List Value} (h : Heap w0 m s.σ w) (hf : Fresh id0 s) (hr : RepVs m w0.heap.size w cs vs) (hi : idsL (old id0) cs = true) :
    ∃ m', Grows (old id0) m m' w (w.alloc (.cells vs.toArray T)) ∧ Heap w0 m' (updσ s.σ [(id0, .box T cs)]) (w.alloc (.cells vs.toArray T)) ∧ m'.b id0 = w.heap.size := by
  let m' : Nm := ⟨m.v, setAt m.b id0 w.heap.size, m.F⟩
  have hg : Grows (old id0) m m' w (w.alloc (.cells vs.toArray T)) := ⟨fun _ _ => rfl, fun i hi => setAt_ne (old_ne (k := 0) (by decide) hi), fun b hb => ⟨hb, Below.heap_alloc w _ b (h.flt b hb)⟩⟩
  refine ⟨m', hg, ?_, setAt_self _ _ _⟩
  have hb0 : w0.heap.size ≤ w.heap.size := h.below.size
  refine Heap.step (fun i => i = id0) h hg hf.σ (fun i hi => ⟨by rw [updσ_one, if_neg hi], hf.p i⟩) (fun i k hi hk => ⟨Below.heap_alloc w _ k (blk_lt h hk).1, (blk_lt h hk).2.1⟩) (fun i hi' => ?_) (fun i j k hij hi' h1 h2 => ?_) (fun k hk => Nat.lt_of_lt_of_le (h.flt k hk) (by simp)) (h.below.alloc hb0 _)
  · subst hi'
    rw [updσ_one, if_pos rfl]
    refine ⟨by show w0.heap.size ≤ setAt m.b i w.heap.size i; rw [setAt_self]; exact hb0, by show ¬ m.F (setAt m.b i w.heap.size i); rw [setAt_self]; exact fun hh => absurd (h.flt _ hh) (by omega), vs, RepVs.move hg hr hi, ?_⟩
    show (w.alloc _).heap[setAt m.b i w.heap.size i]? = _
    rw [setAt_self]
    exact Array.getElem?_push_size
  · subst hi'
    rw [updσ_one, if_pos rfl] at h1
    have h1' : w.heap.size = k := by
      have : setAt m.b i w.heap.size i = k := Eq.symm h1
      rwa [setAt_self] at this
    rw [updσ_one, if_neg (Ne.symm hij)] at h2
    have h3 : blkOf m' j (s.σ j) = blkOf m j (s.σ j) := blkOf.same hg (hf.σ j) (hf.p j)
    rw [h3] at h2
    have := (blk_lt h h2).1
    omega
section
variable {P : Program} {w0 : Org} {w : World} {N : Nat} {S : AS} {o : Oper} {ρ : Type} {r : ρ} {id0 : Nat}
def opNew (id0 : Nat) (T : TypeId) (cs : List PV) (κ : Eff → Option ρ) : Option ρ := bif idsL (old id0) cs then κ ⟨.ptr id0 0, [(id0, .box T cs)]⟩ else none
theorem new_ok {T : TypeId} {cs : List PV} {κ : Eff → Option ρ} (h : opNew id0 T cs κ = some r) (hrun : ∀ m a w, Rep w0 N m S a w → ∃ vs : List Value, RepVs m w0.heap.size w cs vs ∧ (execOp a.eval o).run P w = .ok (.value (.pointer (some ⟨w.heap.size, 0, none⟩))) (w.alloc (.cells vs.toArray T))) : Sound P w0 N S id0 o κ r := by
  unfold opNew at h
  rcases cond_some h with ⟨hi, h⟩ | ⟨_, h2⟩
  · refine ⟨_, h, ?_⟩
    intro S' m a w hl hf hr K Q hK
    obtain ⟨vs, hvs, hrun⟩ := hrun m a w (hr.le hl)
    obtain ⟨m', hg, hh, hb⟩ := Heap.newbox (T := T) hr.heap hf hvs hi
    unfold Oper.wp
    rw [hrun, Oper.upon_value]
    refine hK m' _ _ hg hh ?_
    have : (⟨w.heap.size, 0, none⟩ : Addr) = ⟨m'.b id0, 0, none⟩ := by rw [hb]
    rw [this]
    exact .ptr
  · cases h2
def opAlloc (P : Program) (id0 : Nat) (T : TypeId) (κ : Eff → Option ρ) : Option ρ := match zeroB P T with
  | some z => opNew id0 T (z.cells.toList.map .v) κ
  | none => none
theorem alloc_ok {T : TypeId} {κ : Eff → Option ρ} (ho : o.op = .alloc T) (h : opAlloc P id0 T κ = some r) : Sound P w0 N S id0 o κ r := by
  unfold opAlloc at h
  split at h
  · rename_i z hz
    refine new_ok h (fun m a w hr => ⟨z.cells.toList, RepVs.exact _, ?_⟩)
    refine (run_of_w (s := Instr.alloc T true (.tuple #[])) (by unfold execOp; simp only [ho]) ?_)
    simp only [Instr.alloc, Sem.run_bind, zeroB_ok hz, Result.andThen_ok]
    rfl
  · cases h
def opBox (S : AS) (id0 : Nat) (T : TypeId) (x : PV) (κ : Eff → Option ρ) : Option ρ := match x.cells with
  | some cs => opNew id0 T cs κ
  | none => none
theorem box_ok {T : TypeId} {x : Operand} {κ : Eff → Option ρ} (ho : o.op = .box T x) (h : opBox S id0 T (S.ev x) κ = some r) : Sound P w0 N S id0 o κ r := by
  unfold opBox at h
  split at h
  · rename_i cs hc
    refine new_ok h (fun m a w hr => ⟨(a.eval x).cells.toList, PV.cells_ok (hr.ev x) hc, ?_⟩)
    unfold execOp
    simp only [ho]
    rfl
  · cases h
end
end Ex
namespace Ex
open Go Go.RowKit
def setFrom (cs : Array Value) : Nat → List Value → Array Value
  | _, [] => cs
  | o, v :: r => setFrom (cs.setIfInBounds o v) (o + 1) r
theorem setFrom_toList : ∀ (vs : List Value) (o : Nat) (cs : Array Value), o + vs.length ≤ cs.toList.length → (setFrom cs o vs).toList = cs.toList.take o ++ (vs ++ cs.toList.drop (o + vs.length))
  | [], o, cs, h => by simp [setFrom]
  | v :: r, o, cs, h => by
    simp only [List.length_cons] at h
    rw [setFrom, setFrom_toList r (o + 1) _ (by rw [Array.toList_setIfInBounds, List.length_set]; omega), Array.toList_setIfInBounds, set_take _ _ _ (by omega), List.drop_set_of_lt (by omega)]
    simp only [List.append_assoc, List.length_cons, List.cons_append, List.nil_append]
    congr 4
    omega
theorem heap_setCell {w : World} {b o : Nat} {cs : Array Value} {T : TypeId} {v : Value} (h : w.heap[b]? = some (.cells cs T (0, 0))) : (w.setCell ⟨b, o, none⟩ v).heap[b]? = some (.cells (cs.setIfInBounds o v) T (0, 0)) := by
  have hlt := (Array.getElem?_eq_some_iff.1 h).1
  have hv := (Array.getElem?_eq_some_iff.1 h).2
  simp only [World.setCell]
  rw [Array.getElem?_eq_getElem (by simpa using hlt), Array.getElem_modify]
  simp [hv]
theorem heap_setCells {b : Nat} {T : TypeId} : ∀ (vs : List Value) (o : Nat) (w : World) (cs : Array Value), w.heap[b]? = some (.cells cs T (0, 0)) → (w.setCells b o vs).heap[b]? = some (.cells (setFrom cs o vs) T (0, 0))
  | [], _, _, _, h => h
  | v :: r, o, w, cs, h => heap_setCells r (o + 1) _ _ (heap_setCell h)
theorem heap_setCells_other {b i : Nat} (hi : i ≠ b) : ∀ (vs : List Value) (o : Nat) (w : World), (w.setCells b o vs).heap[i]? = w.heap[i]?
  | [], _, _ => rfl
  | v :: r, o, w => (heap_setCells_other hi r (o + 1) _).trans (Below.heap_setCell _ _ _ _ hi)
theorem size_setCells {b : Nat} : ∀ (vs : List Value) (o : Nat) (w : World), (w.setCells b o vs).heap.size = w.heap.size
  | [], _, _ => rfl
  | v :: r, o, w => (size_setCells r (o + 1) _).trans (by simp [World.setCell])
theorem below_setCells {b B : Nat} (hB : B ≤ b) : ∀ (vs : List Value) (o : Nat) (w : World), Below B w (w.setCells b o vs)
  | [], _, w => Below.refl _ _
  | v :: r, o, w => ((Below.refl B w).setCell (p := ⟨b, o, none⟩) hB v).trans (below_setCells hB r (o + 1) _)
theorem blk_cell {w : World} {b i : Nat} {cs : Array Value} {T : TypeId} (h : w.heap[b]? = some (.cells cs T (0, 0))) : w.cell? ⟨b, i, none⟩ = cs[i]? := by simp [World.cell?, h]
theorem blk_frozen {w : World} {b i : Nat} {cs : Array Value} {T : TypeId} (h : w.heap[b]? = some (.cells cs T (0, 0))) : w.frozen? ⟨b, i, none⟩ = false := by simp [World.frozen?, h]
theorem run_store {P : Program} {w : World} {b o : Nat} {t T : TypeId} {cs : Array Value} {v : Value} (h : w.heap[b]? = some (.cells cs T (0, 0))) (hs : sizeB P t = some v.cells.size) (hle : o + v.cells.size ≤ cs.size) (h1 : ∀ u ∈ v.cells.toList, u.oneCell' = true) :
    (Instr.storeAt t (.pointer (some ⟨b, o, none⟩)) v).run P w = .ok () (w.setCells b o v.cells.toList) := by
  have := run_storeCells_cells (P := P) b o v.cells.toList 0 w (fun j hj => by rw [blk_cell h, Array.getElem?_eq_getElem (by simp at hj; omega)]; rfl) (fun j hj => blk_frozen h) h1
  simp only [Nat.add_zero] at this
  simp only [Instr.storeAt, Instr.sureAddr, storeVar, Sem.run_bind, Sem.run_pure, Result.andThen_ok, sizeB_ok hs]
  simp [this]
theorem all_one {m : Nm} {B0 : Nat} {w : World} : ∀ {ps : List PV} {vs : List Value}, RepVs m B0 w ps vs → ps.all PV.one = true → ∀ u ∈ vs, u.oneCell' = true
  | [], _, .nil, _, u, hu => by cases hu
  | p :: ps, _, .cons h hs, ha, u, hu => by
    simp only [List.all_cons, Bool.and_eq_true] at ha
    rcases List.mem_cons.1 hu with rfl | hu
    · exact PV.one_ok h ha.1
    · exact all_one hs ha.2 u hu
section
def flatK : SK → Bool
  | .row _ => false
  | .ptr _ => false
  | _ => true
def unK (S : AS) : (k : SK) → PV → Option (k.ty × Bool × List Nat)
  | .int k, x => match x with
    | .v (.int k' n) => bif decide (k = k') then some (n, true, []) else none
    | _ => none
  | .bool, x => match x with
    | .v (.bool b) => some (b, true, [])
    | _ => none
  | .str, x => match x with
    | .v (.string s) => some (s, true, [])
    | _ => none
  | .row s, x => match x with
    | .row fr s' l => match asRows s' s l with
      | some l' => some (l', fr, [])
      | none => none
    | .own i => match S.σ i with
      | .own fr T s' l => match asRows s' s l with
        | some l' => some (l', fr, [i])
        | none => none
      | _ => none
    | .v (.slice none 0 _) => some ([], true, [])
    | _ => none
  | .ptr _, _ => none
  | .adr, x => match x with
    | .v (.pointer (some a)) => match a with
      | ⟨b, o, none⟩ => some ((b, o), true, [])
      | _ => none
    | _ => none
  | .fnc f, x => match x with
    | .fn g caps => bif Nat.beq f g && caps.isEmpty then some ((), true, []) else none
    | _ => none
def unT (S : AS) : (s : List SK) → List PV → Option (Tup s × Bool × List Nat)
  | [] => fun cs => match cs with
    | [] => some ((), true, [])
    | _ => none
  | k :: r => match r with
    | [] => fun cs => match cs with
      | [c] => unK S k c
      | _ => none
    | k' :: r' => fun cs => match cs with
      | c :: cs => match unK S k c, unT S (k' :: r') cs with
        | some (x, f, i), some (y, g, j) => some ((x, y), f && g, i ++ j)
        | _, _ => none
      | [] => none
end
def frz (m : Nm) (l : List Nat) : Nat → Prop := fun k => m.F k ∨ ∃ i ∈ l, (m.v i).ownBlock = some k
theorem frz_stays {m : Nm} {w : World} {B0 : Nat} {fr : Bool} (l : List Nat) : Stays (okOf m B0 fr) (okOf ⟨m.v, m.b, frz m l⟩ B0 fr) w w := fun b hb => ⟨⟨.inl hb.1, hb.2⟩, rfl⟩
theorem own_is {B0 : Nat} {w : World} {T : TypeId} {s : List SK} {l : List (Tup s)} {xs : List Value} {v : Value} {ok : Nat → Prop} (h : w.ownsRow B0 T s.length v l.length xs) (hR : RowsIs ok w s l xs) (hk : ∀ k, v.ownBlock = some k → ok k) : SKIs ok w (.row s) l v := by
  simp only [SKIs]
  rcases h.2 with ⟨rfl, h2⟩ | ⟨g, cap, cur, rfl, hb, hg, hle, rest⟩
  · refine ⟨none, 0, by rw [h2], by rw [h2]; exact Nat.le_refl _, fun i x hx => ?_⟩
    have : i < l.length := (List.getElem?_eq_some_iff.1 hx).1
    omega
  · refine ⟨some ⟨g, 0, none⟩, cap, rfl, hle, fun i x hx => ?_⟩
    have hi : i < l.length := (List.getElem?_eq_some_iff.1 hx).1
    obtain ⟨_, hc, ht⟩ := own_cells (j := i) h hR rfl hi
    refine ⟨g, 0, _, rfl, hk g rfl, TupIs.len ht, by rw [Nat.zero_add]; exact hc, ?_⟩
    have hx' : l.getD i (zT s) = x := by rw [List.getD_eq_getElem?_getD, hx]; rfl
    rw [hx'] at ht
    exact ht
theorem unK_ok {w0 : Org} {N : Nat} {m : Nm} {S : AS} {a : Act} {w : World} (hr : Rep w0 N m S a w) {k : SK} {x : PV} {v : Value} {y : k.ty} {f : Bool} {l : List Nat} (h : unK S k x = some (y, f, l)) (hx : RepV m w0.heap.size w x v) : SKIs (okOf ⟨m.v, m.b, frz m l⟩ w0.heap.size f) w k y v := by
  cases k with
  | int k =>
    simp only [unK] at h
    split at h
    · rename_i k' n
      rcases cond_some h with ⟨h1, h2⟩ | ⟨_, h2⟩
      · cases h2; cases hx
        have := of_decide_eq_true h1
        subst this
        simp only [SKIs]
      · cases h2
    · cases h
  | bool =>
    simp only [unK] at h
    split at h
    · cases h; cases hx; simp only [SKIs]
    · cases h
  | str =>
    simp only [unK] at h
    split at h
    · cases h; cases hx; simp only [SKIs]
    · cases h
  | adr =>
    simp only [unK] at h
    split at h
    · split at h
      · cases h; cases hx; simp only [SKIs]
      · cases h
    · cases h
  | fnc f =>
    simp only [unK] at h
    split at h
    · rename_i g caps
      rcases cond_some h with ⟨h1, h2⟩ | ⟨_, h2⟩
      · cases h2
        rw [Bool.and_eq_true] at h1
        have e := Nat.eq_of_beq_eq_true h1.1
        subst e
        have : caps = [] := by simpa using h1.2
        subst this
        cases hx with | fn hx =>
        cases hx
        simp only [SKIs]
      · cases h2
    · cases h
  | row s =>
    simp only [unK] at h
    split at h
    · rename_i fr s' l'
      split at h
      · rename_i l2 hl
        cases h
        obtain ⟨rfl, rfl⟩ := asRows_some hl
        cases hx with | row hx =>
        exact SKIs.move (frz_stays []) hx
      · cases h
    · rename_i i
      split at h
      · rename_i fr T s' l' hσ
        split at h
        · rename_i l2 hl
          cases h
          obtain ⟨rfl, rfl⟩ := asRows_some hl
          cases hx with | own hx =>
          have hb := hr.heap.blk i
          rw [hσ] at hb
          obtain ⟨xs, h1, h2, h3⟩ := hb
          rw [← hx]
          refine own_is h1 (RowsIs.move (frz_stays [i]) h2) (fun k hk => ⟨.inr ⟨i, by simp, hk⟩, fun _ => (h1.lt k hk).1⟩)
        · cases h
      · cases h
    · cases h
      cases hx
      simp only [SKIs]
      exact ⟨none, _, rfl, Nat.zero_le _, fun i x hx => by simp at hx⟩
    · cases h
  | ptr s => simp [unK] at h
theorem unT_ok {w0 : Org} {N : Nat} {m : Nm} {S : AS} {a : Act} {w : World} (hr : Rep w0 N m S a w) : ∀ {s : List SK} {cs : List PV} {vs : List Value} {y : Tup s} {f : Bool} {l : List Nat}, unT S s cs = some (y, f, l) → RepVs m w0.heap.size w cs vs → TupIs (okOf ⟨m.v, m.b, frz m l⟩ w0.heap.size f) w s y vs
  | [], cs, vs, y, f, l, h, hx => by
    simp only [unT] at h
    split at h
    · cases hx; simp only [TupIs]
    · cases h
  | [k], cs, vs, y, f, l, h, hx => by
    match cs, h, hx with
    | [], h, _ => simp only [unT] at h; exact absurd h (by simp)
    | [c], h, .cons hx .nil => simp only [unT] at h; simp only [TupIs]; exact ⟨_, rfl, unK_ok hr h hx⟩
    | _ :: _ :: _, h, _ => simp only [unT] at h; exact absurd h (by simp)
  | k :: k' :: r, cs, vs, y, f, l, h, hx => by
    simp only [unT] at h
    split at h
    · rename_i c cs
      split at h
      · rename_i x1 f1 i1 y1 g1 j1 h1 h2
        cases h
        cases hx with | cons hx hs =>
        simp only [TupIs]
        refine ⟨_, _, rfl, SKIs.move (fun b hb => ?_) (unK_ok hr h1 hx), TupIs.move (fun b hb => ?_) (unT_ok hr h2 hs)⟩
        · exact ⟨⟨hb.1.imp id (fun ⟨i, hi, h⟩ => ⟨i, List.mem_append_left _ hi, h⟩), fun hfg => hb.2 (by simp at hfg; exact hfg.1)⟩, rfl⟩
        · exact ⟨⟨hb.1.imp id (fun ⟨i, hi, h⟩ => ⟨i, List.mem_append_right _ hi, h⟩), fun hfg => hb.2 (by simp at hfg; exact hfg.2)⟩, rfl⟩
      · cases h
    · cases h
end Ex
namespace Ex
open Go Go.RowKit
def setL {α : Type} (xs : List α) (p : Nat) (vs : List α) : List α := xs.take p ++ (vs ++ xs.drop (p + vs.length))
theorem setL_get {α : Type} (xs vs : List α) (p q : Nat) (h : p + vs.length ≤ xs.length) : (setL xs p vs)[q]? = if p ≤ q ∧ q < p + vs.length then vs[q - p]? else xs[q]? := by
  unfold setL
  have hl : (xs.take p).length = p := by rw [List.length_take]; omega
  by_cases h1 : q < p
  · rw [List.getElem?_append_left (by omega), List.getElem?_take_of_lt h1, if_neg (by omega)]
  · rw [List.getElem?_append_right (by omega), hl]
    by_cases h2 : q < p + vs.length
    · rw [List.getElem?_append_left (by omega), if_pos ⟨by omega, h2⟩]
    · rw [List.getElem?_append_right (by omega), List.getElem?_drop, if_neg (by omega)]
      congr 1
      omega
theorem setL_len {α : Type} (xs vs : List α) (p : Nat) (h : p + vs.length ≤ xs.length) : (setL xs p vs).length = xs.length := by
  unfold setL
  rw [List.length_append, List.length_append, List.length_take, List.length_drop]
  omega
theorem seg_other {α : Type} {xs vs : List α} {i j n off : Nat} (hoff : off + vs.length ≤ n) (h : j * n + off + vs.length ≤ xs.length) (hij : i ≠ j) : ((setL xs (j * n + off) vs).drop (i * n)).take n = (xs.drop (i * n)).take n := by
  apply List.ext_getElem?
  intro q
  by_cases hq : q < n
  · rw [List.getElem?_take_of_lt hq, List.getElem?_take_of_lt hq, List.getElem?_drop, List.getElem?_drop, setL_get _ _ _ _ h, if_neg ?_]
    intro ⟨h1, h2⟩
    rcases Nat.lt_or_gt_of_ne hij with h3 | h3
    · have : (i + 1) * n ≤ j * n := Nat.mul_le_mul_right n h3
      rw [Nat.add_mul, Nat.one_mul] at this
      omega
    · have : (j + 1) * n ≤ i * n := Nat.mul_le_mul_right n h3
      rw [Nat.add_mul, Nat.one_mul] at this
      omega
  · rw [List.getElem?_eq_none (by rw [List.length_take]; omega), List.getElem?_eq_none (by rw [List.length_take]; omega)]
theorem seg_same {α : Type} {xs vs : List α} {j n off : Nat} (hoff : off + vs.length ≤ n) (h : j * n + n ≤ xs.length) : ((setL xs (j * n + off) vs).drop (j * n)).take n = setL ((xs.drop (j * n)).take n) off vs := by
  have hlen : ((xs.drop (j * n)).take n).length = n := by rw [List.length_take, List.length_drop]; omega
  apply List.ext_getElem?
  intro q
  rw [setL_get _ _ _ _ (by omega)]
  by_cases hq : q < n
  · rw [List.getElem?_take_of_lt hq, List.getElem?_drop, setL_get _ _ _ _ (by omega)]
    by_cases h1 : off ≤ q ∧ q < off + vs.length
    · rw [if_pos h1, if_pos (by omega)]
      congr 1
      omega
    · rw [if_neg h1, if_neg (by omega), List.getElem?_take_of_lt hq, List.getElem?_drop]
  · rw [List.getElem?_eq_none (by rw [List.length_take]; omega), if_neg (by omega), List.getElem?_eq_none (by rw [List.length_take]; omega)]
theorem RepVs.setL {m : Nm} {B0 : Nat} {w : World} {ps qs : List PV} {vs us : List Value} (h : RepVs m B0 w ps vs) (h' : RepVs m B0 w qs us) (off : Nat) : RepVs m B0 w (setL ps off qs) (setL vs off us) := by
  unfold Ex.setL
  rw [h'.len]
  exact (h.take _).append (h'.append (h.drop _))
def outs (l : List Nat) : List (Nat × ABlk) := l.map fun i => (i, .no)
theorem updσ_app (σ : Nat → ABlk) : ∀ (l l' : List (Nat × ABlk)), updσ σ (l ++ l') = updσ (updσ σ l) l'
  | [], _ => rfl
  | e :: l, l' => updσ_app _ l l'
theorem updσ_outs (σ : Nat → ABlk) : ∀ (l : List Nat) (j : Nat), updσ σ (outs l) j = if j ∈ l then .no else σ j
  | [], j => by simp [outs, updσ]
  | i :: l, j => by
    show updσ (fun k => bif Nat.beq k i then .no else σ k) (outs l) j = _
    rw [updσ_outs _ l j]
    by_cases h : j ∈ l
    · simp [h]
    · by_cases hji : j = i
      · subst hji; simp [h]
      · have hb : Nat.beq j i = false := by
          cases hq : Nat.beq j i with
          | true => exact absurd (Nat.eq_of_beq_eq_true hq) hji
          | false => rfl
        simp [h, hji, hb]
theorem updσ_last (σ : Nat → ABlk) (l : List Nat) (i : Nat) (b : ABlk) (j : Nat) : updσ σ (outs l ++ [(i, b)]) j = if j = i then b else if j ∈ l then .no else σ j := by
  rw [updσ_app, updσ_one, updσ_outs]
section
variable {P : Program} {w0 : Org} {w : World} {N : Nat} {S : AS} {o : Oper} {ρ : Type} {r : ρ} {id0 : Nat}
def okStore (id0 : Nat) (yc : List PV) (n off tot : Nat) : Bool := Nat.beq yc.length n && (Nat.ble (off + n) tot && (yc.all PV.one && idsL (old id0) yc))
def opStore (P : Program) (S : AS) (id0 : Nat) (t : TypeId) (x y : PV) (κ : Eff → Option ρ) : Option ρ := match x, y.cells, sizeB P t with
  | .ptr i off, some yc, some n => match S.σ i with
    | .box T cs => bif okStore id0 yc n off cs.length then κ ⟨.v undef, [(i, .box T (setL cs off yc))]⟩ else none
    | _ => none
  | .eptr i j sz off, some yc, some n => match S.σ i with
    | .own fr T s l => bif okStore id0 yc n off s.length && Nat.beq sz s.length then match unT S s (setL (cellsT fr s (l.getD j.toNat (zT s))) off yc) with
      | some (y', f, []) => κ ⟨.v undef, [(i, .own (fr && f) T s (l.set j.toNat y'))]⟩
      | _ => none else none
    | _ => none
  | _, _, _ => none
theorem okStore_ok {yc : List PV} {n off tot : Nat} (h : okStore id0 yc n off tot = true) : yc.length = n ∧ off + n ≤ tot ∧ yc.all PV.one = true ∧ idsL (old id0) yc = true := by
  simp only [okStore, Bool.and_eq_true] at h
  exact ⟨Nat.eq_of_beq_eq_true h.1, Nat.le_of_ble_eq_true h.2.1, h.2.2.1, h.2.2.2⟩
theorem run_store_op {x y : Operand} {t : TypeId} {ev : Operand → Value} {w1 : World} (ho : o.op = .store t x y) (h : (Instr.storeAt t (ev x) (ev y)).run P w = .ok () w1) : (execOp ev o).run P w = .ok .skip w1 := by
  unfold execOp
  simp only [ho]
  simp [Sem.run_bind, h]
theorem idsL_app {p : Nat → Bool} : ∀ {l l' : List PV}, idsL p l = true → idsL p l' = true → idsL p (l ++ l') = true
  | [], _, _, h => h
  | x :: l, _, h, h' => by simp only [idsL, Bool.and_eq_true, List.cons_append] at h ⊢; exact ⟨h.1, idsL_app h.2 h'⟩
theorem Le.blk {S S' : AS} {i : Nat} {b : ABlk} (hl : Le S S') (h : S.σ i = b) (hb : b ≠ .no) : S'.σ i = b := by
  rcases hl.σ i with h1 | h1
  · rw [h] at h1; exact absurd h1 hb
  · rw [h1, h]
theorem store_ok {x y : Operand} {t : TypeId} {κ : Eff → Option ρ} (ho : o.op = .store t x y) (h : opStore P S id0 t (S.ev x) (S.ev y) κ = some r) : Sound P w0 N S id0 o κ r := by
  unfold opStore at h
  split at h
  · rename_i i off yc n hx hyc hsz
    split at h
    · rename_i T cs hσ
      rcases cond_some h with ⟨hok, hh⟩ | ⟨_, h2⟩
      · clear h
        obtain ⟨e1, e2, e3, e4⟩ := okStore_ok hok
        refine ⟨_, hh, ?_⟩
        intro S' m a w hl hf hr K Q hK
        have hr0 := hr.le hl
        have hσ' : S'.σ i = .box T cs := Le.blk hl hσ (by simp)
        have h1 := hr0.ev x
        rw [hx] at h1
        generalize hz : a.eval x = z at h1
        cases h1
        have hy := PV.cells_ok (hr0.ev y) hyc
        have hb := hr.heap.blk i
        rw [hσ'] at hb
        obtain ⟨b1, b2, vs, hvs, hh0⟩ := hb
        have hlen := hvs.len
        have hylen := hy.len
        simp only [Array.length_toList] at hylen
        have hrun := run_store (P := P) (t := t) (o := off) (v := a.eval y) hh0 (by rw [hsz, ← hylen, e1]) (by simp; omega) (all_one hy e3)
        have hrun' := run_store_op (ev := a.eval) (w := w) ho (by rw [hz]; exact hrun)
        unfold Oper.wp
        rw [hrun', Oper.upon_skip]
        have hs := heap_setCells (a.eval y).cells.toList off w _ hh0
        have hset : setFrom vs.toArray off (a.eval y).cells.toList = (setL vs off (a.eval y).cells.toList).toArray := by
          apply Array.ext'
          rw [setFrom_toList _ _ _ (by simp; omega)]
          rfl
        rw [hset] at hs
        have hg : Grows (old id0) m m w (w.setCells (m.b i) off (a.eval y).cells.toList) := ⟨fun _ _ => rfl, fun _ _ => rfl, fun k hk => ⟨hk, heap_setCells_other (fun (e : k = m.b i) => b2 (by rw [← e]; exact hk)) _ _ _⟩⟩
        have hids : idsL (old id0) (setL cs off yc) = true := by
          have h3 := hf.σ i
          rw [hσ'] at h3
          simp only [ABlk.ids] at h3
          have htd : ∀ (l : List PV) (q : Nat), idsL (old id0) l = true → idsL (old id0) (l.take q) = true ∧ idsL (old id0) (l.drop q) = true := by
            intro l
            induction l with
            | nil => intro q _; simp [idsL]
            | cons p l ih =>
              intro q hq
              simp only [idsL, Bool.and_eq_true] at hq
              cases q with
              | zero => simp [idsL, hq.1, hq.2]
              | succ q => simp [idsL, hq.1, (ih q hq.2).1, (ih q hq.2).2]
          unfold setL
          exact idsL_app (htd cs off h3).1 (idsL_app e4 (htd cs _ h3).2)
        refine hK m _ _ hg ?_ .v
        refine Heap.step (fun q => q = i) hr.heap hg hf.σ (fun q hq => ⟨by rw [updσ_one, if_neg hq], hf.p q⟩) (fun q k hq hk => ⟨heap_setCells_other (fun e => hr.heap.apart q i k hq hk (by rw [hσ', e]; rfl)) _ _ _, (blk_lt hr.heap hk).2.1⟩) (fun q hq => ?_) (fun q j k hqj hq h3 h4 => ?_) (fun k hk => by rw [size_setCells]; exact hr.heap.flt k hk) (hr.heap.below.trans (below_setCells b1 _ _ _))
        · subst hq
          rw [updσ_one, if_pos rfl]
          exact ⟨b1, b2, _, (RepVs.move hg hvs (by have h3 := hf.σ q; rw [hσ'] at h3; exact h3)).setL (RepVs.move hg hy e4) off, hs⟩
        · subst hq
          rw [updσ_one, if_pos rfl] at h3
          rw [updσ_one, if_neg (Ne.symm hqj)] at h4
          exact hr.heap.apart q j k hqj (by rw [hσ']; exact h3) h4
      · cases h2
    · cases h
  · rename_i i j sz off yc n hx hyc hsz
    split at h
    · rename_i fr T s l hσ
      rcases cond_some h with ⟨hok, hh⟩ | ⟨_, h2⟩
      · clear h
        rw [Bool.and_eq_true] at hok
        obtain ⟨e1, e2, e3, e4⟩ := okStore_ok hok.1
        have e5 := Nat.eq_of_beq_eq_true hok.2
        split at hh
        · rename_i y' f hun
          refine ⟨_, hh, ?_⟩
          intro S' m a w hl hf hr K Q hK
          have hr0 := hr.le hl
          have hσ' : S'.σ i = .own fr T s l := Le.blk hl hσ (by simp)
          have h1 := hr0.ev x
          rw [hx, e5] at h1
          generalize hz : a.eval x = z at h1
          cases h1 with | eptr hv hj0 hj1 =>
          rename_i g nn c
          have hy := PV.cells_ok (hr0.ev y) hyc
          have hb := hr.heap.blk i
          rw [hσ'] at hb
          obtain ⟨xs, b1, b2, b3⟩ := hb
          have hblk : (m.v i).ownBlock = some g := by rw [hv]; rfl
          obtain ⟨hnn, hcells, htup⟩ := own_cells (j := j.toNat) b1 b2 hv (by omega)
          have hjl : j.toNat < l.length := by omega
          have hylen := hy.len
          simp only [Array.length_toList] at hylen
          rcases b1.2 with ⟨hn, _⟩ | ⟨g', cap, cur, hv', hg', hh0, hc1, hc2, hc3, hc4⟩
          · rw [hv] at hn; cases hn
          have hgg : g' = g := by rw [hv] at hv'; cases hv'; rfl
          subst hgg
          have hmul : j.toNat * s.length + s.length ≤ l.length * s.length := by
            have : (j.toNat + 1) * s.length ≤ l.length * s.length := Nat.mul_le_mul_right _ hjl
            rwa [Nat.add_mul, Nat.one_mul] at this
          have hmul2 : l.length * s.length ≤ cap * s.length := Nat.mul_le_mul_right _ hc1
          have hxl : xs.length = l.length * s.length := b1.1
          have hcurl : cur.toList.length = cap * s.length := by simpa using hc3
          have hb1 : j.toNat * s.length + off + (a.eval y).cells.toList.length ≤ cur.toList.length := by rw [hcurl]; have hq := Array.length_toList (xs := (a.eval y).cells); omega
          have hb2 : j.toNat * s.length + off + (a.eval y).cells.toList.length ≤ xs.length := by rw [hxl]; have hq := Array.length_toList (xs := (a.eval y).cells); omega
          have hb3 : off + (a.eval y).cells.toList.length ≤ s.length := by have hq := Array.length_toList (xs := (a.eval y).cells); omega
          have hrun := run_store (P := P) (t := t) (o := j.toNat * s.length + off) (v := a.eval y) hh0 (by rw [hsz, ← hylen, e1]) (by have hq := Array.length_toList (xs := (a.eval y).cells); have hq' := Array.length_toList (xs := cur); omega) (all_one hy e3)
          have hrun' := run_store_op (ev := a.eval) (w := w) ho (by rw [hz]; exact hrun)
          unfold Oper.wp
          rw [hrun', Oper.upon_skip]
          have hs := heap_setCells (a.eval y).cells.toList (j.toNat * s.length + off) w _ hh0
          have hnF : ¬ m.F g' := b3 g' hblk
          have hg : Grows (old id0) m m w (w.setCells g' (j.toNat * s.length + off) (a.eval y).cells.toList) := ⟨fun _ _ => rfl, fun _ _ => rfl, fun k hk => ⟨hk, heap_setCells_other (fun (e : k = g') => hnF (by rw [← e]; exact hk)) _ _ _⟩⟩
          refine hK m _ _ hg ?_ .v
          refine Heap.step (fun q => q = i) hr.heap hg hf.σ (fun q hq => ⟨by rw [updσ_one, if_neg hq], hf.p q⟩) (fun q k hq hk => ⟨heap_setCells_other (fun e => hr.heap.apart q i k hq hk (by rw [hσ', e]; exact hblk)) _ _ _, (blk_lt hr.heap hk).2.1⟩) (fun q hq => ?_) (fun q j' k hqj hq h3 h4 => ?_) (fun k hk => by rw [size_setCells]; exact hr.heap.flt k hk) (hr.heap.below.trans (below_setCells hg' _ _ _))
          · subst hq
            rw [updσ_one, if_pos rfl]
            have hsetlen : (setL xs (j.toNat * s.length + off) (a.eval y).cells.toList).length = xs.length := setL_len _ _ _ hb2
            refine ⟨setL xs (j.toNat * s.length + off) (a.eval y).cells.toList, ⟨by rw [hsetlen, List.length_set]; exact hxl, .inr ⟨g', cap, _, by rw [List.length_set]; exact hv', hg', hs, by rw [List.length_set]; exact hc1, hc2, ?_, ?_⟩⟩, ?_, fun k hk => by rw [hblk] at hk; cases hk; exact hnF⟩
            · rw [← Array.length_toList, setFrom_toList _ _ _ hb1, ← hcurl]
              exact setL_len cur.toList (a.eval y).cells.toList _ hb1
            · rw [setFrom_toList _ _ _ hb1, List.length_set]
              apply List.ext_getElem?
              intro q
              show (((setL cur.toList (j.toNat * s.length + off) (a.eval y).cells.toList)).take (l.length * s.length))[q]? = _
              rw [setL_get _ _ _ _ hb2]
              by_cases hq : q < l.length * s.length
              · rw [List.getElem?_take_of_lt hq, setL_get _ _ _ _ hb1]
                split
                · rfl
                · rw [← hc4, List.getElem?_take_of_lt hq]
              · rw [List.getElem?_eq_none (by rw [List.length_take]; omega), if_neg (by rw [hxl] at hb2; omega), List.getElem?_eq_none (by omega)]
            · intro q x' hq
              by_cases hqj : q = j.toNat
              · subst hqj
                rw [List.getElem?_set_self hjl] at hq
                cases hq
                rw [seg_same hb3 (by omega)]
                have h5 := unT_ok hr0 hun ((cellsT_ok htup).setL hy off)
                refine TupIs.move (fun b hb => ?_) h5
                have hFb : m.F b := hb.1.elim id (fun ⟨i, hi, _⟩ => by cases hi)
                refine ⟨⟨hFb, fun hff => ?_⟩, heap_setCells_other (fun (e : b = g') => hnF (by rw [← e]; exact hFb)) _ _ _⟩
                simp only [Bool.and_eq_true] at hff
                exact hb.2 hff.2
              · rw [List.getElem?_set_ne (Ne.symm hqj)] at hq
                rw [seg_other hb3 hb2 hqj]
                refine TupIs.move (fun b hb => ⟨⟨hb.1, fun hff => ?_⟩, heap_setCells_other (fun (e : b = g') => hnF (by rw [← e]; exact hb.1)) _ _ _⟩) (b2 q x' hq)
                simp only [Bool.and_eq_true] at hff
                exact hb.2 hff.1
          · subst hq
            rw [updσ_one, if_pos rfl] at h3
            rw [updσ_one, if_neg (Ne.symm hqj)] at h4
            exact hr.heap.apart q j' k hqj (by rw [hσ']; exact h3) h4
        · cases hh
      · cases h2
    · cases h
  · cases h
end
end Ex
namespace Ex
open Go Go.RowKit
section
variable {P : Program} {w0 : Org} {w : World} {N : Nat} {S : AS} {o : Oper} {ρ : Type} {r : ρ} {id0 : Nat}
def idxArr (x : PV) (sz : Nat) (n : Int) (κ : PV → Option ρ) : Nat → Nat → Option ρ
  | 0, _ => none
  | f + 1, q => bif decide (n = (q : Int)) then match x.moved (q * sz) with
      | some p => κ p
      | none => none
    else idxArr x sz n κ f (q + 1)
theorem idxArr_ok {x : PV} {sz : Nat} {n : Int} {κ : PV → Option ρ} : ∀ {f q : Nat}, idxArr x sz n κ f q = some r → ∃ (j : Nat) (p : PV), n = (j : Int) ∧ j < q + f ∧ x.moved (j * sz) = some p ∧ κ p = some r
  | 0, q, h => by cases h
  | f + 1, q, h => by
    rcases cond_some h with ⟨h1, hh⟩ | ⟨_, hh⟩
    · have hn := of_decide_eq_true h1
      split at hh
      · rename_i p hp; exact ⟨q, p, hn, by omega, hp, hh⟩
      · cases hh
    · obtain ⟨j, p, h2, h3, h4⟩ := idxArr_ok hh
      exact ⟨j, p, h2, by omega, h4⟩
def opIdx (P : Program) (S : AS) (t : TypeId) (x i : PV) (κ : PV → Option ρ) : Option ρ := match P.underlying t, i with
  | some (.slice e), .v (.int _ n) => match sizeB P e, x with
    | some sz, .row fr s l => bif Nat.beq sz s.length then bif decide (0 ≤ n) then bif decide (n < (l.length : Int)) then κ (.rptr fr s (l.getD n.toNat (zT s)) 0) else none else none else none
    | some sz, .own i => match S.σ i with
      | .own _ _ s l => bif Nat.beq sz s.length && Nat.blt 0 sz then bif decide (0 ≤ n) then bif decide (n < (l.length : Int)) then κ (.eptr i n sz 0) else none else none else none
      | _ => none
    | _, _ => none
  | some (.array len e), .v (.int _ n) => match sizeB P e with
    | some sz => idxArr x sz n κ len 0
    | none => none
  | _, _ => none
theorem run_index {x i : Operand} {t : TypeId} {ev : Operand → Value} {v : Value} (ho : o.op = .indexAddr t x i) (h : (Instr.indexAt t (ev x) (ev i)).run P w = .ok v w) : (execOp ev o).run P w = .ok (.value v) w := run_of (by unfold execOp; simp only [ho]) h
theorem idx_ok {x i : Operand} {t : TypeId} {κ : PV → Option ρ} (ho : o.op = .indexAddr t x i) (h : opIdx P S t (S.ev x) (S.ev i) κ = some r) : SoundV P w0 N S o κ r := by
  unfold opIdx at h
  split at h
  · rename_i e k n hu hi
    split at h
    · rename_i sz fr s l hs hx
      rcases cond_some h with ⟨hsz, h1⟩ | ⟨_, h2⟩
      · rcases cond_some h1 with ⟨h0, h1⟩ | ⟨_, h2⟩
        · rcases cond_some h1 with ⟨hlt, hh⟩ | ⟨_, h2⟩
          · clear h
            have e0 := of_decide_eq_true h0
            have e1 := of_decide_eq_true hlt
            have e2 := Nat.eq_of_beq_eq_true hsz
            refine ⟨_, hh, fun m a w hr => ?_⟩
            have h3 := hr.ev x
            rw [hx] at h3
            generalize hz : a.eval x = z at h3
            cases h3 with | row h3 =>
            simp only [SKIs] at h3
            obtain ⟨A, c, rfl, hc, hrow⟩ := h3
            have hl : n.toNat < l.length := by omega
            obtain ⟨b, o', cs, rfl, hok, hlen, hcs, ht⟩ := hrow n.toNat l[n.toNat] (List.getElem?_eq_getElem hl)
            have hg : l.getD n.toNat (zT s) = l[n.toNat] := by rw [List.getD_eq_getElem?_getD, List.getElem?_eq_getElem hl]; rfl
            refine ⟨.pointer (some ⟨b, o' + n.toNat * sz + 0, none⟩), run_index ho ?_, .rptr ?_⟩
            · rw [hz, ev_v hr hi]
              simp only [Instr.indexAt, asIntOf, Sem.run_bind, run_underlying hu, Result.andThen_ok, Sem.run_pure]
              rw [if_pos ⟨e0, e1⟩]
              simp [Sem.run_bind, sizeB_ok hs, Addr.add_mid]
            · simp only [SKIs]
              exact ⟨b, _, cs, rfl, hok, hlen, by rw [e2]; exact hcs, by rw [hg]; exact ht⟩
          · cases h2
        · cases h2
      · cases h2
    · rename_i sz i' hs hx
      split at h
      · rename_i fr T s l hσ
        rcases cond_some h with ⟨hsz, h1⟩ | ⟨_, h2⟩
        · rcases cond_some h1 with ⟨h0, h1⟩ | ⟨_, h2⟩
          · rcases cond_some h1 with ⟨hlt, hh⟩ | ⟨_, h2⟩
            · clear h
              have e0 := of_decide_eq_true h0
              have e1 := of_decide_eq_true hlt
              refine ⟨_, hh, fun m a w hr => ?_⟩
              have h3 := hr.ev x
              rw [hx] at h3
              generalize hz : a.eval x = z at h3
              cases h3 with | own h3 =>
              have hb := hr.heap.blk i'
              rw [hσ] at hb
              obtain ⟨xs, b1, b2, b3⟩ := hb
              rcases b1.2 with ⟨hn, hn0⟩ | ⟨g', cap, cur, hv', hg', _⟩
              · rw [hn0] at e1; omega
              · have hv2 := hv'
                rw [h3] at hv'
                cases hv'
                refine ⟨.pointer (some ⟨g', n.toNat * sz + 0, none⟩), run_index ho ?_, .eptr hv2 e0 e1⟩
                rw [hz, ev_v hr hi]
                simp only [Instr.indexAt, asIntOf, Sem.run_bind, run_underlying hu, Result.andThen_ok, Sem.run_pure]
                rw [if_pos ⟨e0, e1⟩]
                simp [Sem.run_bind, sizeB_ok hs, Addr.add_mid]
            · cases h2
          · cases h2
        · cases h2
      · cases h
    · cases h
  · rename_i len e k n hu hi
    split at h
    · rename_i sz hs
      obtain ⟨j, p, rfl, hj, hp, hh⟩ := idxArr_ok h
      refine ⟨_, hh, fun m a w hr => ?_⟩
      obtain ⟨b, off, hv, hrv⟩ := moved_ok hp (hr.ev x)
      refine ⟨_, run_index ho ?_, hrv⟩
      rw [hv, ev_v hr hi]
      have h1 : (0 : Int) ≤ (j : Int) ∧ (j : Int) < (len : Int) := ⟨by omega, by omega⟩
      simp only [Instr.indexAt, asIntOf, Sem.run_bind, run_underlying hu, Result.andThen_ok, Sem.run_pure, Instr.sureAddr]
      rw [if_pos h1]
      simp [Sem.run_bind, sizeB_ok hs, Addr.add_mid]
    · cases h
  · cases h
def bound (x : Option PV) : Option (Option Int) := match x with
  | none => some none
  | some (.v (.int _ n)) => some (some n)
  | some _ => none
theorem row_take {ok : Nat → Prop} {s : List SK} {l : List (Tup s)} {A : Option Addr} {c n k : Nat} (h : SKIs ok w (.row s) l (.slice A l.length c)) (hk : k ≤ l.length) : SKIs ok w (.row s) (l.take k) (.slice A k c) := by
  simp only [SKIs] at h ⊢
  obtain ⟨A', c', he, hc, hr⟩ := h
  cases he
  have hl : (l.take k).length = k := by rw [List.length_take]; omega
  refine ⟨A, c, by rw [hl], by rw [hl]; omega, fun i x hx => ?_⟩
  have hi : i < k := by
    have := (List.getElem?_eq_some_iff.1 hx).1
    omega
  rw [List.getElem?_take_of_lt hi] at hx
  exact hr i x hx
theorem row_drop {ok : Nat → Prop} {s : List SK} {l : List (Tup s)} {A : Option Addr} {c k : Nat} (h : SKIs ok w (.row s) l (.slice A l.length c)) (hk : k ≤ l.length) : SKIs ok w (.row s) (l.drop k) (.slice (if c = k then A else A.map (·.add (k * s.length))) (l.length - k) (c - k)) := by
  simp only [SKIs] at h ⊢
  obtain ⟨A', c', he, hc, hr⟩ := h
  cases he
  have hl : (l.drop k).length = l.length - k := by rw [List.length_drop]
  refine ⟨_, _, by rw [hl], by rw [hl]; omega, fun i x hx => ?_⟩
  have hi : i < l.length - k := by
    have := (List.getElem?_eq_some_iff.1 hx).1
    omega
  rw [List.getElem?_drop] at hx
  obtain ⟨b, o, cs, rfl, hok, hlen, hcs, ht⟩ := hr (k + i) x hx
  refine ⟨b, o + k * s.length, cs, ?_, hok, hlen, ?_, ht⟩
  · rw [if_neg (by omega)]
    simp [Addr.add_mid]
  · rw [Nat.add_mul, ← Nat.add_assoc] at hcs
    exact hcs
def opCut (P : Program) (S : AS) (t : TypeId) (x : PV) (lo hi : Option PV) (κ : PV → Option ρ) : Option ρ := match P.underlying t, x, bound lo, bound hi with
  | some (.slice e), .row fr s l, some lo, some hi => match sizeB P e with
    | some sz => bif Nat.beq sz s.length then match lo, hi with
      | none, some h => bif decide (0 ≤ h) then bif decide (h ≤ (l.length : Int)) then κ (.row fr s (l.take h.toNat)) else none else none
      | some a, none => bif decide (0 ≤ a) then bif decide (a ≤ (l.length : Int)) then κ (.row fr s (l.drop a.toNat)) else none else none
      | some a, some h => bif decide (0 ≤ a) then bif decide (a ≤ h) then bif decide (h ≤ (l.length : Int)) then κ (.row fr s ((l.take h.toNat).drop a.toNat)) else none else none else none
      | none, none => none else none
    | none => none
  | _, _, _, _ => none
theorem bound_ok {m : Nm} {a : Act} (hr : Rep w0 N m S a w) {x : Option Operand} {n : Option Int} (h : bound (x.map S.ev) = some n) : ∃ k, x.map a.eval = n.map (Value.int k) := by
  unfold bound at h
  cases x with
  | none => simp only [Option.map_none] at h; cases h; exact ⟨.i64, rfl⟩
  | some x =>
    simp only [Option.map_some] at h
    split at h
    · rename_i he; cases he
    · rename_i k n' he
      cases h
      exact ⟨k, by rw [Option.map_some, ev_v hr (Option.some.inj he)]; rfl⟩
    · cases h
theorem cut_ok {x : Operand} {lo hi : Option Operand} {t : TypeId} {κ : PV → Option ρ} (ho : o.op = .slice t x lo hi none) (h : opCut P S t (S.ev x) (lo.map S.ev) (hi.map S.ev) κ = some r) : SoundV P w0 N S o κ r := by
  unfold opCut at h
  split at h
  · rename_i e fr s l lo' hi' hu hx hlo hhi
    split at h
    · rename_i sz hs
      rcases cond_some h with ⟨hsz, h⟩ | ⟨_, h2⟩
      · have e2 := Nat.eq_of_beq_eq_true hsz
        have hel : P.elem t = e := by simp [Program.elem, hu]
        have hu' : P.underlying t = some (.slice (P.elem t)) := by rw [hel]; exact hu
        have hsa : ∀ v lo hi w, (Instr.sliceAt t v lo hi none).run P w = (Instr.slice t v lo hi none).run P w := fun v lo hi w => by
          simp only [Instr.sliceAt, Sem.run_bind, run_underlying hu, Result.andThen_ok]
        have hrun : ∀ a : Act, ∀ v w, (Instr.slice t (a.eval x) (lo.map a.eval) (hi.map a.eval) none).run P w = .ok v w → (execOp a.eval o).run P w = .ok (.value v) w := fun a v w hv =>
          run_of (s := Instr.sliceAt t (a.eval x) (lo.map a.eval) (hi.map a.eval) none) (by unfold execOp; simp only [ho, Option.map_none]) (by rw [hsa]; exact hv)
        have hval : ∀ m a w, Rep w0 N m S a w → ∃ A c, a.eval x = .slice A l.length c ∧ l.length ≤ c ∧ SKIs (okOf m w0.heap.size fr) w (.row s) l (.slice A l.length c) := fun m a w hr => by
          have h3 := hr.ev x
          rw [hx] at h3
          generalize hz : a.eval x = z at h3
          cases h3 with | row h3 =>
          have h4 := h3
          simp only [SKIs] at h4
          obtain ⟨A, c, rfl, hc, _⟩ := h4
          exact ⟨A, c, rfl, hc, h3⟩
        rcases lo' with _ | al <;> rcases hi' with _ | hq
        · cases h
        · rcases cond_some h with ⟨h0, h⟩ | ⟨_, h2⟩
          · rcases cond_some h with ⟨h1, hh⟩ | ⟨_, h2⟩
            · have e0 := of_decide_eq_true h0
              have e1 := of_decide_eq_true h1
              refine ⟨_, hh, fun m a w hr => ?_⟩
              obtain ⟨A, c, hv, hc, hrow⟩ := hval m a w hr
              obtain ⟨k1, b1⟩ := bound_ok hr hlo
              obtain ⟨k2, b2⟩ := bound_ok hr hhi
              have := row_take (n := 0) hrow (k := hq.toNat) (by omega)
              refine ⟨_, hrun a _ w ?_, .row this⟩
              rw [hv, b1, b2]
              simp only [Option.map_none, Option.map_some]
              rw [run_slice_h w t A l.length c hu' k2 hq e0 (by omega), hel]
              simp only [sizeB_ok hs, Result.andThen_ok, sliced]
              have ha : (A.map fun x => x.add (0 * sz)) = A := by cases A <;> simp [Addr.add]
              simp [ha]
              intro _
              cases A <;> simp [Addr.add]
            · cases h2
          · cases h2
        · rcases cond_some h with ⟨h0, h⟩ | ⟨_, h2⟩
          · rcases cond_some h with ⟨h1, hh⟩ | ⟨_, h2⟩
            · have e0 := of_decide_eq_true h0
              have e1 := of_decide_eq_true h1
              refine ⟨_, hh, fun m a w hr => ?_⟩
              obtain ⟨A, c, hv, hc, hrow⟩ := hval m a w hr
              obtain ⟨k1, b1⟩ := bound_ok hr hlo
              obtain ⟨k2, b2⟩ := bound_ok hr hhi
              have := row_drop hrow (k := al.toNat) (by omega)
              refine ⟨_, hrun a _ w ?_, .row this⟩
              rw [hv, b1, b2]
              simp only [Option.map_none, Option.map_some]
              rw [run_slice_l w t A l.length c hu' k1 al e0 (by omega), hel]
              simp only [sizeB_ok hs, Result.andThen_ok, sliced, ← e2]
            · cases h2
          · cases h2
        · rcases cond_some h with ⟨h0, h⟩ | ⟨_, h2⟩
          · rcases cond_some h with ⟨h1, h⟩ | ⟨_, h2⟩
            · rcases cond_some h with ⟨h3, hh⟩ | ⟨_, h2⟩
              · have e0 := of_decide_eq_true h0
                have e1 := of_decide_eq_true h1
                have e3 := of_decide_eq_true h3
                refine ⟨_, hh, fun m a w hr => ?_⟩
                obtain ⟨A, c, hv, hc, hrow⟩ := hval m a w hr
                obtain ⟨k1, b1⟩ := bound_ok hr hlo
                obtain ⟨k2, b2⟩ := bound_ok hr hhi
                have t1 := row_take (n := 0) hrow (k := hq.toNat) (by omega)
                have hlt : (l.take hq.toNat).length = hq.toNat := by rw [List.length_take]; omega
                have t2 : SKIs (okOf m w0.heap.size fr) w (.row s) (l.take hq.toNat) (.slice A (l.take hq.toNat).length c) := by rw [hlt]; exact t1
                have := row_drop (l := l.take hq.toNat) t2 (k := al.toNat) (by rw [hlt]; omega)
                refine ⟨_, hrun a _ w ?_, .row this⟩
                rw [hv, b1, b2]
                simp only [Option.map_some]
                rw [run_slice_lh w t A l.length c hu' k1 k2 al hq e0 e1 (by omega), hel]
                simp only [sizeB_ok hs, Result.andThen_ok, sliced, ← e2, hlt]
              · cases h2
            · cases h2
          · cases h2
      · cases h2
    · cases h
  · cases h
end
end Ex
namespace Ex
open Go Go.RowKit
theorem Heap.newrow {w0 : Org} {w w' : World} {m : Nm} {S : AS} {id0 : Nat} {dl fl : List Nat} {row : Option Nat} {fr : Bool} {T : TypeId} {s : List SK} {l : List (Tup s)} {xs : List Value} {v' : Value} (h : Heap w0 m S.σ w) (hf : Fresh id0 S) (hgr : w.grownBy w' row)
    (hrow : ∀ k, row = some k → ∃ i ∈ dl, blkOf m i (S.σ i) k) (hfl : ∀ i ∈ fl, ∃ fr T s l, S.σ i = .own fr T s l) (hdis : ∀ i ∈ fl, i ∉ dl) (hv : ∀ k, v'.ownBlock = some k → row = some k ∨ w.heap.size ≤ k)
    (hown : w'.ownsRow w0.heap.size T s.length v' l.length xs) (hR : RowsIs (okOf ⟨m.v, m.b, frz m fl⟩ w0.heap.size fr) w' s l xs) :
    ∃ m', Grows (old id0) m m' w w' ∧ Heap w0 m' (updσ S.σ (outs (dl ++ fl) ++ [(id0, .own fr T s l)])) w' ∧ m'.v id0 = v' := by
  let m' : Nm := ⟨setAt m.v id0 v', m.b, frz m fl⟩
  have hrow2 : ∀ k, row = some k → k < w.heap.size ∧ ¬ m.F k ∧ w0.heap.size ≤ k := fun k hk => by
    obtain ⟨i, _, hi⟩ := hrow k hk
    exact blk_lt h hi
  have hflb : ∀ i ∈ fl, ∀ k, (m.v i).ownBlock = some k → blkOf m i (S.σ i) k := fun i hi k hk => by
    obtain ⟨fr, T, s, l, hσ⟩ := hfl i hi
    rw [hσ]
    exact hk
  have hg : Grows (old id0) m m' w w' := ⟨fun i hi => setAt_ne (old_ne (k := 0) (by decide) hi), fun _ _ => rfl, fun b hb => ⟨.inl hb, hgr.block b (h.flt b hb) (fun e => (hrow2 b e.symm).2.1 hb)⟩⟩
  have hnew : ∀ k, v'.ownBlock = some k → ¬ frz m fl k := fun k hk hfz => by
    rcases hv k hk with h1 | h1
    · obtain ⟨i, hi, hib⟩ := hrow k h1
      rcases hfz with h2 | ⟨j, hj, hjb⟩
      · exact (hrow2 k h1).2.1 h2
      · exact h.apart i j k (fun e => hdis j hj (e ▸ hi)) hib (hflb j hj k hjb)
    · rcases hfz with h2 | ⟨j, hj, hjb⟩
      · have := h.flt k h2; omega
      · have := (blk_lt h (hflb j hj k hjb)).1; omega
  refine ⟨m', hg, ?_, setAt_self _ _ _⟩
  have hσ' : ∀ i, updσ S.σ (outs (dl ++ fl) ++ [(id0, .own fr T s l)]) i = if i = id0 then .own fr T s l else if i ∈ dl ++ fl then .no else S.σ i := fun i => updσ_last _ _ _ _ _
  refine Heap.step (fun i => i = id0 ∨ i ∈ dl ++ fl) h hg hf.σ (fun i hi => ⟨by rw [hσ', if_neg (fun e => hi (.inl e)), if_neg (fun e => hi (.inr e))], hf.p i⟩) (fun i k hi hk => ?_) (fun i hi => ?_) (fun i j k hij hi h1 h2 => ?_) (fun k hk => ?_) ?_
  · have hlt := blk_lt h hk
    refine ⟨hgr.block k hlt.1 (fun e => ?_), fun hfz => ?_⟩
    · obtain ⟨j, hj, hjb⟩ := hrow k e.symm
      exact h.apart i j k (fun e => hi (.inr (List.mem_append_left _ (e ▸ hj)))) hk hjb
    · rcases hfz with h2 | ⟨j, hj, hjb⟩
      · exact hlt.2.1 h2
      · exact h.apart i j k (fun e => hi (.inr (List.mem_append_right _ (e ▸ hj)))) hk (hflb j hj k hjb)
  · rw [hσ']
    by_cases h1 : i = id0
    · rw [if_pos h1]
      subst h1
      refine ⟨xs, ?_, hR, fun k hk => hnew k ?_⟩
      · show w'.ownsRow _ _ _ (setAt m.v i v' i) _ _
        rw [setAt_self]; exact hown
      · have : (setAt m.v i v' i).ownBlock = some k := hk
        rwa [setAt_self] at this
    · rw [if_neg h1, if_pos (hi.resolve_left h1)]
      trivial
  · rw [hσ'] at h1
    by_cases hi0 : i = id0
    · rw [if_pos hi0] at h1
      subst hi0
      have h1' : v'.ownBlock = some k := by
        have : (setAt m.v i v' i).ownBlock = some k := h1
        rwa [setAt_self] at this
      rw [hσ', if_neg (Ne.symm hij)] at h2
      by_cases hj : j ∈ dl ++ fl
      · rw [if_pos hj] at h2; cases h2
      · rw [if_neg hj, blkOf.same hg (hf.σ j) (hf.p j)] at h2
        rcases hv k h1' with h3 | h3
        · obtain ⟨q, hq, hqb⟩ := hrow k h3
          exact h.apart q j k (fun e => hj (List.mem_append_left _ (e ▸ hq))) hqb h2
        · have := (blk_lt h h2).1; omega
    · rw [if_neg hi0, if_pos (hi.resolve_left hi0)] at h1
      cases h1
  · rcases hk with h2 | ⟨j, hj, hjb⟩
    · exact Nat.lt_of_lt_of_le (h.flt k h2) hgr.size
    · exact Nat.lt_of_lt_of_le (blk_lt h (hflb j hj k hjb)).1 hgr.size
  · exact h.below.grown hgr h.below.size (fun k hk => (hrow2 k hk).2.2)
mutual
/-- The kind of a type's data. -/
def skOf (P : Program) : Nat → TypeId → Option (List SK)
  | 0, _ => none
  | d + 1, t => match P.underlying t with
    | some (.int k) => some [.int k]
    | some .bool => some [.bool]
    | some .string => some [.str]
    | some (.pointer _) => some [.adr]
    | some (.slice e) => match skOf P d e with
      | some s => some [.row s]
      | none => none
    | some (.struct fs) => skFs P d fs.toList
    | some (.array n e) => match skOf P d e with
      | some s => some ((List.replicate n s).flatten)
      | none => none
    | _ => none
def skFs (P : Program) : Nat → List Field → Option (List SK)
  | 0, _ => none
  | d + 1, fs => match fs with
    | [] => some []
    | f :: r => match skOf P d f.type, skFs P d r with
      | some a, some b => some (a ++ b)
      | _, _ => none
end
def unTs (S : AS) (s : List SK) : Nat → List PV → Option (List (Tup s) × Bool × List Nat)
  | 0, _ => some ([], true, [])
  | n + 1, cs => match unT S s (cs.take s.length), unTs S s n (cs.drop s.length) with
    | some (x, f, i), some (l, g, j) => some (x :: l, f && g, i ++ j)
    | _, _ => none
theorem unK_own {S : AS} {k : SK} {x : PV} {y : k.ty} {f : Bool} {l : List Nat} (h : unK S k x = some (y, f, l)) : ∀ i ∈ l, ∃ fr T s l, S.σ i = .own fr T s l := by
  cases k with
  | row s =>
    simp only [unK] at h
    split at h
    · split at h
      · cases h; intro i hi; cases hi
      · cases h
    · rename_i i
      split at h
      · rename_i fr T s' l' hσ
        split at h
        · cases h
          intro j hj
          simp at hj
          subst hj
          exact ⟨_, _, _, _, hσ⟩
        · cases h
      · cases h
    · cases h; intro i hi; cases hi
    · cases h
  | adr =>
    simp only [unK] at h
    split at h
    · split at h
      · cases h; intro i hi; cases hi
      · cases h
    · cases h
  | fnc f =>
    simp only [unK] at h
    split at h
    · rcases cond_some h with ⟨_, h2⟩ | ⟨_, h2⟩
      · cases h2; intro i hi; cases hi
      · cases h2
    · cases h
  | int k =>
    simp only [unK] at h
    split at h
    · rcases cond_some h with ⟨_, h2⟩ | ⟨_, h2⟩
      · cases h2; intro i hi; cases hi
      · cases h2
    · cases h
  | bool =>
    simp only [unK] at h
    split at h
    · cases h; intro i hi; cases hi
    · cases h
  | str =>
    simp only [unK] at h
    split at h
    · cases h; intro i hi; cases hi
    · cases h
  | ptr s => simp [unK] at h
theorem unT_own {S : AS} : ∀ {s : List SK} {cs : List PV} {y : Tup s} {f : Bool} {l : List Nat}, unT S s cs = some (y, f, l) → ∀ i ∈ l, ∃ fr T s l, S.σ i = .own fr T s l
  | [], cs, y, f, l, h => by
    simp only [unT] at h
    split at h
    · cases h; intro i hi; cases hi
    · cases h
  | [k], cs, y, f, l, h => by
    match cs, h with
    | [], h => simp only [unT] at h; exact absurd h (by simp)
    | [c], h => simp only [unT] at h; exact unK_own h
    | _ :: _ :: _, h => simp only [unT] at h; exact absurd h (by simp)
  | k :: k' :: r, cs, y, f, l, h => by
    simp only [unT] at h
    split at h
    · split at h
      · rename_i x1 f1 i1 y1 g1 j1 h1 h2
        cases h
        intro i hi
        rcases List.mem_append.1 hi with hi | hi
        · exact unK_own h1 i hi
        · exact unT_own h2 i hi
      · cases h
    · cases h
theorem unTs_own {S : AS} {s : List SK} : ∀ {n : Nat} {cs : List PV} {y : List (Tup s)} {f : Bool} {l : List Nat}, unTs S s n cs = some (y, f, l) → ∀ i ∈ l, ∃ fr T s l, S.σ i = .own fr T s l
  | 0, cs, y, f, l, h => by cases h; intro i hi; cases hi
  | n + 1, cs, y, f, l, h => by
    simp only [unTs] at h
    split at h
    · rename_i x1 f1 i1 y1 g1 j1 h1 h2
      cases h
      intro i hi
      rcases List.mem_append.1 hi with hi | hi
      · exact unT_own h1 i hi
      · exact unTs_own h2 i hi
    · cases h
theorem RowsIs.nil {ok : Nat → Prop} {w : World} {s : List SK} {xs : List Value} : RowsIs ok w s [] xs := fun i x hx => by simp at hx
theorem RowsIs.cons {ok : Nat → Prop} {w : World} {s : List SK} {x : Tup s} {l : List (Tup s)} {xs : List Value} (h : TupIs ok w s x (xs.take s.length)) (hs : RowsIs ok w s l (xs.drop s.length)) : RowsIs ok w s (x :: l) xs := fun i y hy => by
  cases i with
  | zero => simp only [List.getElem?_cons_zero, Option.some.injEq] at hy; subst hy; simpa using h
  | succ i =>
    have := hs i y (by simpa using hy)
    rw [List.drop_drop] at this
    rw [Nat.succ_mul, Nat.add_comm]
    exact this
theorem unTs_ok {w0 : Org} {N : Nat} {m : Nm} {S : AS} {a : Act} {w : World} (hr : Rep w0 N m S a w) {s : List SK} : ∀ {n : Nat} {cs : List PV} {vs : List Value} {y : List (Tup s)} {f : Bool} {l : List Nat}, unTs S s n cs = some (y, f, l) → RepVs m w0.heap.size w cs vs → y.length = n ∧ RowsIs (okOf ⟨m.v, m.b, frz m l⟩ w0.heap.size f) w s y vs
  | 0, cs, vs, y, f, l, h, hx => by cases h; exact ⟨rfl, RowsIs.nil⟩
  | n + 1, cs, vs, y, f, l, h, hx => by
    simp only [unTs] at h
    split at h
    · rename_i x1 f1 i1 y1 g1 j1 h1 h2
      cases h
      have t1 := unT_ok hr h1 (hx.take s.length)
      obtain ⟨e1, t2⟩ := unTs_ok hr h2 (hx.drop s.length)
      refine ⟨by simp [e1], RowsIs.cons (TupIs.move (fun b hb => ?_) t1) (RowsIs.move (fun b hb => ?_) t2)⟩
      · exact ⟨⟨hb.1.imp id (fun ⟨i, hi, h⟩ => ⟨i, List.mem_append_left _ hi, h⟩), fun hfg => hb.2 (by simp at hfg; exact hfg.1)⟩, rfl⟩
      · exact ⟨⟨hb.1.imp id (fun ⟨i, hi, h⟩ => ⟨i, List.mem_append_right _ hi, h⟩), fun hfg => hb.2 (by simp at hfg; exact hfg.2)⟩, rfl⟩
    · cases h
theorem foldl_set_size (off : Nat) : ∀ (zl : List (Value × Nat)) (cells : Array Value), (zl.foldl (fun cs (c, j) => cs.setIfInBounds (off + j) c) cells).size = cells.size
  | [], cells => rfl
  | x :: zl, cells => by rw [List.foldl_cons, foldl_set_size off zl]; simp
theorem fill_len {place : Nat → Option (Nat × Nat)} : ∀ {ps : List (Nat × Value)} {cells out : Array Value}, Instr.fill place cells ps = some out → out.size = cells.size
  | [], cells, out, h => by cases h; rfl
  | (i, v) :: ps, cells, out, h => by
    simp only [Instr.fill] at h
    split at h
    · cases h
    · split at h
      · cases h
      · rw [fill_len h, ← Array.foldl_toList]
        exact foldl_set_size _ _ _
theorem RepVs.blank {m : Nm} {B0 : Nat} {w : World} : ∀ (vs : List Value), RepVs m B0 w (List.replicate vs.length .un) vs
  | [] => .nil
  | v :: vs => .cons .un (RepVs.blank vs)
section
variable {P : Program} {w0 : Org} {w : World} {N : Nat} {S : AS} {o : Oper} {ρ : Type} {r : ρ} {id0 : Nat}
def opLit (P : Program) (S : AS) (id0 : Nat) (t : TypeId) (len : Nat) (parts : Array (Nat × Operand)) (κ : Eff → Option ρ) : Option ρ := match P.underlying t with
  | some (.slice e) => match sizeB P e, skOf P 40 e, zeroB P e with
    | some sz, some s, some _ => bif Nat.beq sz s.length && (Nat.ble (len * sz) 1000 && Nat.ble len 1000) then match fillB (fun i => some (i * sz, sz)) (List.replicate (len * sz) .un) (parts.toList.map fun e => (e.1, S.ev e.2)) with
      | some cs => match unTs S s len cs with
        | some (l, f, fl) => κ ⟨.own id0, outs ([] ++ fl) ++ [(id0, .own f e s l)]⟩
        | none => none
      | none => none else none
    | _, _, _ => none
  | _ => none
theorem run_lit {t e : TypeId} {len sz : Nat} {parts : Array (Nat × Value)} {zero : Value} (hu : P.underlying t = some (.slice e)) (hs : sizeB P e = some sz) (hz : zeroB P e = some zero) (hle : len * sz ≤ 1000) (w : World) :
    ∃ z0 : Array Value, z0.size = len * sz ∧ ∀ us, Instr.fill (fun i => some (i * sz, sz)) z0 parts.toList = some us → (Instr.buildSlice t len parts).run P w = .ok (.slice (some ⟨w.heap.size, 0, none⟩) len len) (w.alloc (.cells us e)) := by
  have hn : ¬ (len * sz > 2 ^ 24) := by omega
  by_cases h0 : len * sz = 0
  · refine ⟨(Array.range (len * sz)).map ((#[] : Array Value)[· % (#[] : Array Value).size]!), by simp, fun us h1 => ?_⟩
    simp only [Instr.buildSlice, Sem.run_bind, run_underlying hu, Result.andThen_ok, sizeB_ok hs, if_neg hn, if_pos h0]
    simp only [Sem.run_pure, Result.andThen_ok]
    rw [h1]
    rfl
  · refine ⟨(Array.range (len * sz)).map (zero.cells[· % zero.cells.size]!), by simp, fun us h1 => ?_⟩
    simp only [Instr.buildSlice, Sem.run_bind, run_underlying hu, Result.andThen_ok, sizeB_ok hs, if_neg hn, if_neg h0, zeroB_ok hz, Sem.run_pure]
    rw [h1]
    rfl
def evp (ev : Operand → Value) (parts : Array (Nat × Operand)) : Array (Nat × Value) := parts.map fun e => (e.1, ev e.2)
theorem exec_lit {t : TypeId} {len : Nat} {parts : Array (Nat × Operand)} {ev : Operand → Value} {v : Value} {w1 : World} (ho : o.op = .buildSlice t len parts) (h : (Instr.buildSlice t len (evp ev parts)).run P w = .ok v w1) : (execOp ev o).run P w = .ok (.value v) w1 :=
  run_of_w (s := Instr.buildSlice t len (evp ev parts)) (by unfold execOp; simp only [ho]; rfl) h
theorem lit_ok {t : TypeId} {len : Nat} {parts : Array (Nat × Operand)} {κ : Eff → Option ρ} (ho : o.op = .buildSlice t len parts) (h : opLit P S id0 t len parts κ = some r) : Sound P w0 N S id0 o κ r := by
  unfold opLit at h
  split at h
  · rename_i e hu
    split at h
    · rename_i sz s zero hs hsk hz
      rcases cond_some h with ⟨hsz, hh⟩ | ⟨_, h2⟩
      · clear h
        simp only [Bool.and_eq_true] at hsz
        have e1 := Nat.eq_of_beq_eq_true hsz.1
        have e2 := Nat.le_of_ble_eq_true hsz.2.1
        have e3 := Nat.le_of_ble_eq_true hsz.2.2
        split at hh
        · rename_i cs hcs
          split at hh
          · rename_i l f fl hun
            refine ⟨_, hh, ?_⟩
            intro S' m a w hl hf hr K Q hK
            have hr0 := hr.le hl
            obtain ⟨z0, hz0, hrun⟩ := run_lit (parts := evp a.eval parts) hu hs hz e2 w
            have h1 := RepVs.blank (m := m) (B0 := w0.heap.size) (w := w) z0.toList
            rw [Array.length_toList, hz0] at h1
            obtain ⟨us, hfill, hus⟩ := fillB_ok (vs := z0.toList) (vps := parts.toList.map fun e => (e.1, a.eval e.2)) hcs h1 (by simp) (evps_ok hr0 _)
            have hrun' := hrun us.toArray (by simpa [evp] using hfill)
            obtain ⟨elen, hrows⟩ := unTs_ok hr0 hun hus
            subst elen
            have hul : us.length = l.length * s.length := by
              have := fill_len hfill
              simp at this
              rw [this, ← Array.length_toList, Array.length_toList, hz0, e1]
            have hmax : l.length ≤ maxLen := Nat.le_trans e3 (by decide)
            have hgr : w.grownBy (w.alloc (.cells us.toArray e)) none := World.grownBy_alloc w _ none
            obtain ⟨m', hg, hh', hv'⟩ := Heap.newrow (dl := []) (fl := fl) (row := none) (fr := f) (T := e) (s := s) (l := l) (xs := us) (v' := .slice (some ⟨w.heap.size, 0, none⟩) l.length l.length) hr.heap hf hgr (fun k hk => by cases hk) (fun i hi => by
              obtain ⟨fr, T, s', l', hσ⟩ := unTs_own hun i hi
              exact ⟨_, _, _, _, Le.blk hl hσ (by simp)⟩) (fun i _ h => by cases h) (fun k hk => .inr (by cases hk; exact Nat.le_refl _))
              ⟨hul, .inr ⟨w.heap.size, l.length, us.toArray, rfl, hr.heap.below.size, heap_alloc_new w _, Nat.le_refl _, hmax, by simp [hul], by simp [← hul]⟩⟩
              (RowsIs.move (fun b hb => ⟨hb, Below.heap_alloc w _ b (by
                rcases hb.1 with h2 | ⟨i, hi, hib⟩
                · exact hr.heap.flt b h2
                · obtain ⟨fr, T, s', l', hσ⟩ := unTs_own hun i hi
                  exact (blk_lt hr.heap (i := i) (by rw [Le.blk hl hσ (by simp)]; exact hib)).1)⟩) hrows)
            unfold Oper.wp
            rw [exec_lit ho hrun', Oper.upon_value]
            exact hK m' _ _ hg hh' (.own hv')
          · cases hh
        · cases hh
      · cases h2
    · cases h
  · cases h
end
end Ex
namespace Ex
open Go Go.RowKit
mutual
theorem SKIs.flat {ok ok' : Nat → Prop} {w : World} : ∀ {k : SK} {x : k.ty} {v : Value}, flatK k = true → SKIs ok w k x v → SKIs ok' w k x v
  | .int _, _, _, _, h => by simpa only [SKIs] using h
  | .bool, _, _, _, h => by simpa only [SKIs] using h
  | .str, _, _, _, h => by simpa only [SKIs] using h
  | .row s, _, _, hf, _ => by simp [flatK] at hf
  | .ptr s, _, _, hf, _ => by simp [flatK] at hf
  | .adr, _, _, _, h => by simpa only [SKIs] using h
  | .fnc _, _, _, _, h => by simpa only [SKIs] using h
theorem TupIs.flat {ok ok' : Nat → Prop} {w : World} : ∀ {s : List SK} {x : Tup s} {cs : List Value}, s.all flatK = true → TupIs ok w s x cs → TupIs ok' w s x cs
  | [], _, _, _, h => by simpa only [TupIs] using h
  | [k], x, cs, hf, h => by
    simp only [TupIs] at h ⊢
    obtain ⟨u, rfl, h⟩ := h
    exact ⟨u, rfl, SKIs.flat (by simpa using hf) h⟩
  | k :: k' :: r, x, cs, hf, h => by
    simp only [TupIs] at h ⊢
    obtain ⟨u, us, rfl, h1, h2⟩ := h
    simp only [List.all_cons, Bool.and_eq_true] at hf
    exact ⟨u, us, rfl, SKIs.flat hf.1 h1, TupIs.flat (by simp [hf.2.1, hf.2.2]) h2⟩
end
mutual
theorem SKIs.one {ok : Nat → Prop} {w : World} : ∀ {k : SK} {x : k.ty} {v : Value}, SKIs ok w k x v → v.oneCell' = true
  | .int _, _, _, h => by simp only [SKIs] at h; subst h; rfl
  | .bool, _, _, h => by simp only [SKIs] at h; subst h; rfl
  | .str, _, _, h => by simp only [SKIs] at h; subst h; rfl
  | .row s, _, _, h => by simp only [SKIs] at h; obtain ⟨A, c, rfl, _⟩ := h; rfl
  | .ptr s, _, _, h => by simp only [SKIs] at h; obtain ⟨b, o, cs, rfl, _⟩ := h; rfl
  | .adr, _, _, h => by simp only [SKIs] at h; subst h; rfl
  | .fnc _, _, _, h => by simp only [SKIs] at h; subst h; rfl
theorem TupIs.one {ok : Nat → Prop} {w : World} : ∀ {s : List SK} {x : Tup s} {cs : List Value}, TupIs ok w s x cs → ∀ u ∈ cs, u.oneCell' = true
  | [], _, _, h => by simp only [TupIs] at h; subst h; intro u hu; cases hu
  | [k], x, cs, h => by
    simp only [TupIs] at h
    obtain ⟨u, rfl, h⟩ := h
    intro v hv
    simp at hv
    subst hv
    exact SKIs.one h
  | k :: k' :: r, x, cs, h => by
    simp only [TupIs] at h
    obtain ⟨u, us, rfl, h1, h2⟩ := h
    intro v hv
    rcases List.mem_cons.1 hv with rfl | hv
    · exact SKIs.one h1
    · exact TupIs.one h2 v hv
end
theorem RowsIs.one {ok : Nat → Prop} {w : World} {s : List SK} {l : List (Tup s)} {xs : List Value} (h : RowsIs ok w s l xs) (hl : xs.length = l.length * s.length) : ∀ u ∈ xs, u.oneCell' = true := fun u hu => by
  obtain ⟨q, hq, rfl⟩ := List.mem_iff_getElem.1 hu
  rw [hl] at hq
  have hs : 0 < s.length := Nat.pos_of_ne_zero (fun e => by rw [e] at hq; omega)
  have hi : q / s.length < l.length := Nat.div_lt_of_lt_mul (by rw [Nat.mul_comm]; exact hq)
  have ht := h (q / s.length) _ (List.getElem?_eq_getElem hi)
  refine TupIs.one ht _ (List.mem_iff_getElem?.2 ⟨q % s.length, ?_⟩)
  rw [List.getElem?_take_of_lt (Nat.mod_lt _ hs), List.getElem?_drop]
  have : q / s.length * s.length + q % s.length = q := by rw [Nat.mul_comm]; exact Nat.div_add_mod q s.length
  rw [this]
  exact List.getElem?_eq_getElem _
theorem RowsIs.app {ok : Nat → Prop} {w : World} {s : List SK} {l l' : List (Tup s)} {xs ys : List Value} (h : RowsIs ok w s l xs) (h' : RowsIs ok w s l' ys) (hl : xs.length = l.length * s.length) : RowsIs ok w s (l ++ l') (xs ++ ys) := fun i x hx => by
  by_cases hi : i < l.length
  · rw [List.getElem?_append_left hi] at hx
    have := h i x hx
    have hm : (i + 1) * s.length ≤ l.length * s.length := Nat.mul_le_mul_right _ hi
    rw [Nat.add_mul, Nat.one_mul] at hm
    rw [List.drop_append_of_le_length (by omega), List.take_append_of_le_length (by rw [List.length_drop]; omega)]
    exact this
  · rw [List.getElem?_append_right (by omega)] at hx
    have := h' _ x hx
    rw [Nat.sub_mul, ← hl] at this
    rw [List.drop_append, List.drop_of_length_le (by rw [hl]; exact Nat.mul_le_mul_right _ (by omega)), List.nil_append]
    exact this
theorem row_flat {ok : Nat → Prop} {w : World} {s : List SK} {l : List (Tup s)} {A : Option Addr} {c : Nat} (h : SKIs ok w (.row s) l (.slice A l.length c)) : ∀ n, n ≤ l.length → ∃ news : List Value, news.length = n * s.length ∧ RowsIs ok w s (l.take n) news ∧ ∀ b o, A = some ⟨b, o, none⟩ → CellsAt w b o news := by
  simp only [SKIs] at h
  obtain ⟨A', c', he, hc, hr⟩ := h
  cases he
  intro n
  induction n with
  | zero => exact fun _ => ⟨[], by simp, RowsIs.nil, fun b o _ j u hu => by simp at hu⟩
  | succ n ih =>
    intro hn
    obtain ⟨news, h1, h2, h3⟩ := ih (by omega)
    obtain ⟨b, o, cs, rfl, hok, hlen, hcs, ht⟩ := hr n l[n] (List.getElem?_eq_getElem (by omega))
    have hln : (l.take n).length = n := by rw [List.length_take]; omega
    refine ⟨news ++ cs, by rw [List.length_append, h1, hlen, Nat.add_mul, Nat.one_mul], ?_, fun b' o' he j u hu => ?_⟩
    · rw [List.take_succ_eq_append_getElem (by omega)]
      refine h2.app (RowsIs.cons ?_ RowsIs.nil) (by rw [hln]; exact h1)
      rw [List.take_of_length_le (by omega)]
      exact ht
    · cases he
      by_cases hj : j < news.length
      · rw [List.getElem?_append_left hj] at hu
        exact h3 b o rfl j u hu
      · rw [List.getElem?_append_right (by omega)] at hu
        have := hcs _ u hu
        rw [h1] at this hj
        rwa [show o + n * s.length + (j - n * s.length) = o + j by omega] at this
def srcRow (S : AS) (s : List SK) (x : PV) : Option (List (Tup s) × Bool) := match x with
  | .row fr s' l => match asRows s' s l with
    | some l' => some (l', fr)
    | none => none
  | .own j => match S.σ j with
    | .own fr _ s' l => match asRows s' s l with
      | some l' => some (l', fr)
      | none => none
    | _ => none
  | .v (.slice none 0 _) => some ([], true)
  | _ => none
theorem srcRow_ok {w0 : Org} {N : Nat} {m : Nm} {S : AS} {a : Act} {w : World} (hr : Rep w0 N m S a w) {s : List SK} {x : PV} {v : Value} {l : List (Tup s)} {f : Bool} (h : srcRow S s x = some (l, f)) (hx : RepV m w0.heap.size w x v) :
    ∃ A c news, v = .slice A l.length c ∧ (A = none → l = []) ∧ (∀ ad, A = some ad → ∀ j u, news[j]? = some u → w.cell? (ad.add j) = some u) ∧ news.length = l.length * s.length ∧ RowsIs (okOf m w0.heap.size f) w s l news := by
  unfold srcRow at h
  split at h
  · rename_i fr s' l'
    split at h
    · rename_i l2 hl
      cases h
      obtain ⟨rfl, rfl⟩ := asRows_some hl
      cases hx with | row hx =>
      have h4 := hx
      simp only [SKIs] at h4
      obtain ⟨A, c, rfl, hc, hr4⟩ := h4
      obtain ⟨news, h1, h2, h3⟩ := row_flat hx l.length (Nat.le_refl _)
      rw [List.take_length] at h2
      refine ⟨A, c, news, rfl, fun hA => ?_, fun ad hA j u hu => ?_, h1, h2⟩
      · cases l with
        | nil => rfl
        | cons y l' => obtain ⟨b, o, cs, he, _⟩ := hr4 0 y rfl; rw [hA] at he; cases he
      · cases l with
        | nil => simp at h1; subst h1; simp at hu
        | cons y l' =>
          obtain ⟨b, o, cs, he, _⟩ := hr4 0 y rfl
          rw [hA] at he
          cases he
          rw [Addr.add_mid]
          exact h3 b o hA j u hu
    · cases h
  · rename_i j
    split at h
    · rename_i fr T s' l' hσ
      split at h
      · rename_i l2 hl
        cases h
        obtain ⟨rfl, rfl⟩ := asRows_some hl
        cases hx with | own hx =>
        have hb := hr.heap.blk j
        rw [hσ] at hb
        obtain ⟨xs, b1, b2, b3⟩ := hb
        rcases b1.2 with ⟨hn, hn0⟩ | ⟨g', cap, cur, hv', hg', hh, _⟩
        · rw [hn] at hx
          cases hx
          have : l = [] := List.eq_nil_of_length_eq_zero hn0
          subst this
          exact ⟨none, 0, [], rfl, fun _ => rfl, (by intro ad hA; cases hA), by simp, RowsIs.nil⟩
        · rw [hv'] at hx
          cases hx
          refine ⟨some ⟨g', 0, none⟩, _, xs, rfl, (by intro hA; cases hA), fun ad hA j u hu => ?_, b1.1, b2⟩
          cases hA
          exact b1.cells (by rw [hv']; rfl) j u hu
      · cases h
    · cases h
  · cases h
    cases hx
    exact ⟨none, _, [], rfl, fun _ => rfl, (by intro ad hA; cases hA), by simp, RowsIs.nil⟩
  · cases h
section
variable {P : Program} {w0 : Org} {w : World} {N : Nat} {S : AS} {o : Oper} {ρ : Type} {r : ρ} {id0 : Nat}
def appTo (P : Program) (S : AS) (id0 : Nat) (e : TypeId) (dl : List Nat) (fr : Bool) (s : List SK) (l : List (Tup s)) (x : PV) (κ : Eff → Option ρ) : Option ρ := match P.info? e with
  | some inf => match inf.zero with
    | some z => bif Nat.beq inf.size s.length && (Nat.beq z.cells.size s.length && (Nat.blt 0 s.length && Nat.blt 0 inf.bytes)) then match srcRow S s x with
      | some (l2, f2) => bif decide ((l.length + l2.length) * inf.bytes ≤ 140737488355328) then κ ⟨.own id0, outs (dl ++ []) ++ [(id0, .own (fr && (f2 || s.all flatK)) e s (l ++ l2))]⟩ else none
      | none => none else none
    | none => none
  | none => none
def opAppend (P : Program) (S : AS) (id0 : Nat) (ts : Array TypeId) (b x : PV) (κ : Eff → Option ρ) : Option ρ := match ts.toList with
  | [t, t'] => bif Nat.beq t t' then match P.underlying t with
    | some (.slice e) => match b with
      | .own i => match S.σ i with
        | .own fr T s l => bif Nat.beq T e then appTo P S id0 e [i] fr s l x κ else none
        | _ => none
      | .v (.slice none 0 0) => match skOf P 40 e with
        | some s => appTo P S id0 e [] true s [] x κ
        | none => none
      | _ => none
    | _ => none else none
  | _ => none
theorem run_append_nil {t ty e : TypeId} {inf : TypeInfo} {A : Option Addr} {n c c' : Nat} (hu : P.underlying t = some (.slice e)) (hi : P.info? e = some inf) (hc : n ≤ c) : (Builtin.append_ #[t, t] ty #[.slice A n c, .slice none 0 c']).run P w = .ok (.slice A n c) w := by
  cases A with
  | none => simp [Builtin.append_, run_underlying hu, sizeOf, typeInfo, hi, Builtin.lenOf, Builtin.firstCells, hc]
  | some ad => simp [Builtin.append_, run_underlying hu, sizeOf, typeInfo, hi, Builtin.lenOf, Builtin.firstCells, hc, storeCells]
theorem appTo_ok {t e : TypeId} {b x : Operand} {dl : List Nat} {fr : Bool} {s : List SK} {l : List (Tup s)} {κ : Eff → Option ρ} (ho : o.op = .call { callee := .builtin .append, args := #[b, x], argTypes := #[t, t] }) (hu : P.underlying t = some (.slice e))
    (hb : ∀ m a w, Rep w0 N m S a w → ∃ xs, w.ownsRow w0.heap.size e s.length (a.eval b) l.length xs ∧ RowsIs (okOf m w0.heap.size fr) w s l xs ∧ ∀ k, (a.eval b).ownBlock = some k → ∃ i ∈ dl, blkOf m i (S.σ i) k)
    (h : appTo P S id0 e dl fr s l (S.ev x) κ = some r) : Sound P w0 N S id0 o κ r := by
  unfold appTo at h
  split at h
  · rename_i inf hi
    split at h
    · rename_i z hz
      rcases cond_some h with ⟨hsz, hh⟩ | ⟨_, h2⟩
      · clear h
        simp only [Bool.and_eq_true] at hsz
        have e1 := Nat.eq_of_beq_eq_true hsz.1
        have e2 := Nat.eq_of_beq_eq_true hsz.2.1
        have e3 : 0 < s.length := Nat.le_of_ble_eq_true hsz.2.2.1
        have e4 : 0 < inf.bytes := Nat.le_of_ble_eq_true hsz.2.2.2
        split at hh
        · rename_i l2 f2 hsrc
          rcases cond_some hh with ⟨hlim, hk⟩ | ⟨_, h2⟩
          · clear hh
            have hbytes := of_decide_eq_true hlim
            have hmax : l.length + l2.length ≤ maxLen := by
              have h1 : l.length + l2.length ≤ (l.length + l2.length) * inf.bytes := Nat.le_mul_of_pos_right _ e4
              exact Nat.le_trans (Nat.le_trans h1 hbytes) (by decide)
            refine ⟨_, hk, ?_⟩
            intro S' m a w hl hf hr K Q hK
            have hr0 := hr.le hl
            obtain ⟨xs, o1, o2, o3⟩ := hb m a w hr0
            obtain ⟨A, c, news, hv, hA, hcell, hnl, hnr⟩ := srcRow_ok hr0 hsrc (hr0.ev x)
            have hbase : w0.heap.size ≤ w.heap.size := hr.heap.below.size
            have run : ∃ v' w', (Builtin.append_ #[t, t] o.type #[a.eval b, a.eval x]).run P w = .ok v' w' ∧ w'.ownsRow w0.heap.size e s.length v' (l.length + l2.length) (xs ++ news) ∧ w.grownBy w' (a.eval b).ownBlock ∧ (v'.ownBlock = (a.eval b).ownBlock ∨ v'.ownBlock = some w.heap.size) := by
              cases A with
              | none =>
                have hl2 := hA rfl
                subst hl2
                have hn0 : news = [] := by simpa using hnl
                subst hn0
                rw [hv]
                rcases o1.2 with ⟨hn, hn0⟩ | ⟨g, cap, cur, hv', hg', hh, hle, _⟩
                · refine ⟨a.eval b, w, ?_, by simpa using o1, ⟨rfl, rfl, rfl, Nat.le_refl _, fun _ _ _ => rfl⟩, .inl rfl⟩
                  rw [hn]; exact run_append_nil hu hi (Nat.le_refl _)
                · refine ⟨a.eval b, w, ?_, by simpa using o1, ⟨rfl, rfl, rfl, Nat.le_refl _, fun _ _ _ => rfl⟩, .inl rfl⟩
                  rw [hv']; exact run_append_nil hu hi hle
              | some ad =>
                rw [hv]
                obtain ⟨v', w', h1, h2, h3, _, h5⟩ := run_append_own_at (P := P) w w0.heap.size t o.type e inf z s.length inf.bytes hu hi hz e1 rfl e2 e3 (a.eval b) l.length xs o1 ad l2.length c news hnl (hcell ad rfl) (hnr.one hnl) hmax hbytes hbase
                exact ⟨v', w', h1, h2, h3, h5⟩
            obtain ⟨v', w', hrun, hown, hgr, hat⟩ := run
            have hrow : ∀ k, (a.eval b).ownBlock = some k → ∃ i ∈ dl, blkOf m i (S'.σ i) k := fun k hk => by
              obtain ⟨i, hi, hib⟩ := o3 k hk
              refine ⟨i, hi, ?_⟩
              rcases hl.σ i with h1 | h1
              · rw [h1] at hib; cases hib
              · rw [h1]; exact hib
            have hnF : ∀ k, (a.eval b).ownBlock = some k → ¬ m.F k := fun k hk => by
              obtain ⟨i, _, hib⟩ := hrow k hk
              exact (blk_lt hr.heap hib).2.1
            have hstay : ∀ f g : Bool, (g = true → f = true) → Stays (okOf m w0.heap.size f) (okOf ⟨m.v, m.b, frz m []⟩ w0.heap.size g) w w' := fun f g hfg k hk => ⟨⟨.inl hk.1, fun hg => hk.2 (hfg hg)⟩, hgr.block k (hr.heap.flt k hk.1) (fun e => hnF k e.symm hk.1)⟩
            obtain ⟨m', hg, hh', hv'⟩ := Heap.newrow (dl := dl) (fl := []) (row := (a.eval b).ownBlock) (fr := fr && (f2 || s.all flatK)) (T := e) (s := s) (l := l ++ l2) (xs := xs ++ news) (v' := v') hr.heap hf hgr hrow (fun i hi => by cases hi) (fun i hi => by cases hi)
              (fun k hk => by
                rcases hat with h1 | h1
                · exact .inl (h1 ▸ hk)
                · rw [h1] at hk; cases hk; exact .inr (Nat.le_refl _))
              (by rw [List.length_append]; exact hown)
              (by
                refine RowsIs.app (RowsIs.move (hstay _ _ (fun h => by simp at h; exact h.1)) o2) ?_ o1.1
                by_cases hfl : s.all flatK = true
                · intro i y hy
                  have := hnr i y hy
                  exact TupIs.flat hfl (TupIs.move (hstay f2 false (fun h => by cases h)) this)
                · refine RowsIs.move (hstay f2 _ (fun h => ?_)) hnr
                  simp only [Bool.and_eq_true, Bool.or_eq_true] at h
                  exact h.2.resolve_right hfl)
            unfold Oper.wp execOp
            simp only [ho, resolve, invoke, builtin, Sem.run_bind, Sem.run_pure, Result.andThen_ok, List.map_toArray, List.map_cons, List.map_nil, hrun]
            have hsl : ∃ A n c, v' = .slice A n c := by
              rcases hown.2 with ⟨h1, _⟩ | ⟨g, cap, cur, h1, _⟩ <;> exact ⟨_, _, _, h1⟩
            obtain ⟨A', n', c', rfl⟩ := hsl
            exact hK m' _ _ hg hh' (.own hv')
          · cases h2
        · cases hh
      · cases h2
    · cases h
  · cases h
theorem append_ok {ts : Array TypeId} {b x : Operand} {κ : Eff → Option ρ} (ho : o.op = .call { callee := .builtin .append, args := #[b, x], argTypes := ts }) (h : opAppend P S id0 ts (S.ev b) (S.ev x) κ = some r) : Sound P w0 N S id0 o κ r := by
  unfold opAppend at h
  split at h
  · rename_i t t' hts
    have hts' : ts = #[t, t'] := by
      apply Array.ext'
      exact hts
    subst hts'
    rcases cond_some h with ⟨htt, hh⟩ | ⟨_, h2⟩
    · clear h
      have := Nat.eq_of_beq_eq_true htt
      subst this
      split at hh
      · rename_i e hu
        split at hh
        · rename_i i hbv
          split at hh
          · rename_i fr T s l hσ
            rcases cond_some hh with ⟨hT, hk⟩ | ⟨_, h2⟩
            · have := Nat.eq_of_beq_eq_true hT
              subst this
              refine appTo_ok ho hu (fun m a w hr => ?_) hk
              have h3 := hr.ev b
              rw [hbv] at h3
              generalize hz : a.eval b = z at h3
              cases h3 with | own h3 =>
              have hbk := hr.heap.blk i
              rw [hσ] at hbk
              obtain ⟨xs, b1, b2, b3⟩ := hbk
              rw [← h3]
              exact ⟨xs, b1, b2, fun k hk => ⟨i, by simp, by rw [hσ]; exact hk⟩⟩
            · cases h2
          · cases hh
        · rename_i hbv
          split at hh
          · rename_i s hs
            refine appTo_ok ho hu (fun m a w hr => ?_) hh
            rw [ev_v hr hbv]
            exact ⟨[], World.ownsRow_nil _ _ _ _, RowsIs.nil, fun k hk => by cases hk⟩
          · cases hh
        · cases hh
      · cases hh
    · cases h2
  · cases h
end
end Ex
namespace Ex
open Go Go.RowKit
inductive LK : Type where
  | sc (k : SK) | row (T : TypeId) (s : List SK) | ptr (s : List SK) | fnc (f : Nat) (ss : List (List SK))
def Tups : List (List SK) → Type
  | [] => Unit
  | k :: r => match r with
    | [] => Tup k
    | k' :: r' => Tup k × Tups (k' :: r')
inductive PK : Type where
  | one (l : LK) | agg (ls : List LK)
def LK.ty : LK → Type
  | .sc k => k.ty
  | .row _ s => List (Tup s)
  | .ptr s => Tup s
  | .fnc _ ss => Tups ss
def LT : List LK → Type
  | [] => Unit
  | k :: r => match r with
    | [] => k.ty
    | k' :: r' => k.ty × LT (k' :: r')
def PK.ty : PK → Type
  | .one l => l.ty
  | .agg ls => LT ls
def PT : List PK → Type
  | [] => Unit
  | k :: r => match r with
    | [] => k.ty
    | k' :: r' => k.ty × PT (k' :: r')
def CapsIs (ok : Nat → Prop) (w : World) : (ss : List (List SK)) → Tups ss → List Value → Prop
  | [] => fun _ vs => vs = []
  | k :: r => match r with
    | [] => fun x vs => ∃ u, vs = [u] ∧ SKIs ok w (.ptr k) x u
    | k' :: r' => fun x vs => ∃ u us, vs = u :: us ∧ SKIs ok w (.ptr k) x.1 u ∧ CapsIs ok w (k' :: r') x.2 us
theorem CapsIs.move {ok ok' : Nat → Prop} {w w' : World} (hs : Stays ok ok' w w') : ∀ {ss : List (List SK)} {x : Tups ss} {vs : List Value}, CapsIs ok w ss x vs → CapsIs ok' w' ss x vs
  | [], _, _, h => h
  | [k], x, vs, h => by
    simp only [CapsIs] at h ⊢
    obtain ⟨u, rfl, h⟩ := h
    exact ⟨u, rfl, SKIs.move hs h⟩
  | k :: k' :: r, x, vs, h => by
    simp only [CapsIs] at h ⊢
    obtain ⟨u, us, rfl, h1, h2⟩ := h
    exact ⟨u, us, rfl, SKIs.move hs h1, CapsIs.move hs h2⟩
def capPs (fr : Bool) : (ss : List (List SK)) → Tups ss → List PV
  | [] => fun _ => []
  | k :: r => match r with
    | [] => fun x => [.rptr fr k x 0]
    | k' :: r' => fun x => .rptr fr k x.1 0 :: capPs fr (k' :: r') x.2
theorem rptr_of {m : Nm} {B0 : Nat} {w : World} {fr : Bool} {s : List SK} {x : Tup s} {v : Value} (h : SKIs (okOf m B0 fr) w (.ptr s) x v) : RepV m B0 w (.rptr fr s x 0) v := by
  have h0 := h
  simp only [SKIs] at h
  obtain ⟨b, o, cs, rfl, _⟩ := h
  exact .rptr h0
theorem capPs_ok {m : Nm} {B0 : Nat} {w : World} {fr : Bool} : ∀ {ss : List (List SK)} {x : Tups ss} {vs : List Value}, CapsIs (okOf m B0 fr) w ss x vs → RepVs m B0 w (capPs fr ss x) vs ∧ ∀ p, idsL p (capPs fr ss x) = true
  | [], x, vs, h => by
    simp only [CapsIs] at h
    subst h
    exact ⟨.nil, fun p => rfl⟩
  | [k], x, vs, h => by
    simp only [CapsIs] at h
    obtain ⟨u, rfl, h⟩ := h
    exact ⟨.cons (rptr_of h) .nil, fun p => rfl⟩
  | k :: k' :: r, x, vs, h => by
    simp only [CapsIs] at h
    obtain ⟨u, us, rfl, h1, h2⟩ := h
    obtain ⟨a1, a2⟩ := capPs_ok h2
    exact ⟨.cons (rptr_of h1) a1, fun p => by simp only [capPs, idsL, PV.ids, a2, Bool.and_self]⟩
def LKIs (ok : Nat → Prop) (w : World) : (k : LK) → k.ty → Value → Prop
  | .sc k, x, v => SKIs ok w k x v
  | .row _ s, l, v => SKIs ok w (.row s) l v
  | .ptr s, x, v => SKIs ok w (.ptr s) x v
  | .fnc f ss, x, v => ∃ cs : List Value, v = .func (.func f) #[] cs.toArray ∧ CapsIs ok w ss x cs
def LTIs (ok : Nat → Prop) (w : World) : (s : List LK) → LT s → List Value → Prop
  | [] => fun _ vs => vs = []
  | k :: r => match r with
    | [] => fun x vs => ∃ u, vs = [u] ∧ LKIs ok w k x u
    | k' :: r' => fun x vs => ∃ u us, vs = u :: us ∧ LKIs ok w k x.1 u ∧ LTIs ok w (k' :: r') x.2 us
def PKIs (ok : Nat → Prop) (w : World) : (p : PK) → p.ty → Value → Prop
  | .one l, x, v => LKIs ok w l x v
  | .agg ls, x, v => ∃ vs : List Value, v = .agg vs.toArray ∧ LTIs ok w ls x vs
def PTIs (ok : Nat → Prop) (w : World) : (s : List PK) → PT s → List Value → Prop
  | [] => fun _ vs => vs = []
  | k :: r => match r with
    | [] => fun x vs => ∃ u, vs = [u] ∧ PKIs ok w k x u
    | k' :: r' => fun x vs => ∃ u us, vs = u :: us ∧ PKIs ok w k x.1 u ∧ PTIs ok w (k' :: r') x.2 us
def RowNew (base : Nat) (Fz : Nat → Prop) (w : World) (T : TypeId) (s : List SK) (l : List (Tup s)) (v : Value) : Prop := ∃ xs, w.ownsRow base T s.length v l.length xs ∧ RowsIs Fz w s l xs
def LKNew (base : Nat) (Fz : Nat → Prop) (w : World) : (k : LK) → k.ty → Value → List Value → Prop
  | .sc k, x, v, rv => rv = [] ∧ SKIs Fz w k x v
  | .row T s, l, v, rv => rv = [v] ∧ RowNew base Fz w T s l v
  | .ptr _, _, _, _ => False
  | .fnc f ss, x, v, rv => rv = [] ∧ ∃ cs : List Value, v = .func (.func f) #[] cs.toArray ∧ CapsIs Fz w ss x cs
def LTNew (base : Nat) (Fz : Nat → Prop) (w : World) : (s : List LK) → LT s → List Value → List Value → Prop
  | [] => fun _ vs rv => vs = [] ∧ rv = []
  | k :: r => match r with
    | [] => fun x vs rv => ∃ u, vs = [u] ∧ LKNew base Fz w k x u rv
    | k' :: r' => fun x vs rv => ∃ u us r1 r2, vs = u :: us ∧ rv = r1 ++ r2 ∧ LKNew base Fz w k x.1 u r1 ∧ LTNew base Fz w (k' :: r') x.2 us r2
def PKNew (base : Nat) (Fz : Nat → Prop) (w : World) : (p : PK) → p.ty → Value → List Value → Prop
  | .one l, x, v, rv => LKNew base Fz w l x v rv
  | .agg ls, x, v, rv => ∃ vs : List Value, v = .agg vs.toArray ∧ LTNew base Fz w ls x vs rv
def PTNew (base : Nat) (Fz : Nat → Prop) (w : World) : (s : List PK) → PT s → List Value → List Value → Prop
  | [] => fun _ vs rv => vs = [] ∧ rv = []
  | k :: r => match r with
    | [] => fun x vs rv => ∃ u, vs = [u] ∧ PKNew base Fz w k x u rv
    | k' :: r' => fun x vs rv => ∃ u us r1 r2, vs = u :: us ∧ rv = r1 ++ r2 ∧ PKNew base Fz w k x.1 u r1 ∧ PTNew base Fz w (k' :: r') x.2 us r2
def retV : List Value → Value
  | [v] => v
  | vs => .tuple vs.toArray
def Apart : List Value → Prop
  | [] => True
  | v :: r => (∀ u ∈ r, ∀ k, v.ownBlock = some k → u.ownBlock = some k → False) ∧ Apart r
structure Rets (R : List PK) (w w' : World) (x : PT R) (v : Value) : Prop where
  ex : ∃ vs rv Fz, v = retV vs ∧ PTNew w.heap.size Fz w' R x vs rv ∧ Apart rv ∧ (∀ u ∈ rv, ∀ k, u.ownBlock = some k → ¬ Fz k) ∧ ∀ k, Fz k → w.heap.size ≤ k ∧ k < w'.heap.size
def CallsOk (P : Program) (f : FuncId) (A R : List PK) (F : PT A → Option (PT R)) : Prop :=
  ∀ (x : PT A) (r : PT R) (w : World) (vals : List Value), F x = some r → PTIs (fun b => b < w.heap.size) w A x vals → GK w →
    Calls P f vals.toArray w fun e w' => ∃ v, e = .returned v ∧ Rets R w w' r v ∧ Below w.heap.size w w'
section
variable {w : World}
theorem SKIs.okle {ok ok' : Nat → Prop} (h : ∀ k, ok k → ok' k) {k : SK} {x : k.ty} {v : Value} (hx : SKIs ok w k x v) : SKIs ok' w k x v := SKIs.move (fun b hb => ⟨h b hb, rfl⟩) hx
theorem LKIs.le {ok ok' : Nat → Prop} (h : ∀ k, ok k → ok' k) {k : LK} {x : k.ty} {v : Value} (hx : LKIs ok w k x v) : LKIs ok' w k x v := by
  cases k with
  | fnc f ss =>
    obtain ⟨cs, rfl, hx⟩ := hx
    exact ⟨cs, rfl, CapsIs.move (fun b hb => ⟨h b hb, rfl⟩) hx⟩
  | _ => exact SKIs.okle h hx
theorem LTIs.le {ok ok' : Nat → Prop} (h : ∀ k, ok k → ok' k) : ∀ {s : List LK} {x : LT s} {vs : List Value}, LTIs ok w s x vs → LTIs ok' w s x vs
  | [], _, _, hx => hx
  | [k], x, vs, hx => by
    simp only [LTIs] at hx ⊢
    obtain ⟨u, rfl, hx⟩ := hx
    exact ⟨u, rfl, LKIs.le h hx⟩
  | k :: k' :: r, x, vs, hx => by
    simp only [LTIs] at hx ⊢
    obtain ⟨u, us, rfl, h1, h2⟩ := hx
    exact ⟨u, us, rfl, LKIs.le h h1, LTIs.le h h2⟩
theorem PKIs.le {ok ok' : Nat → Prop} (h : ∀ k, ok k → ok' k) {k : PK} {x : k.ty} {v : Value} (hx : PKIs ok w k x v) : PKIs ok' w k x v := by
  cases k with
  | one l => exact LKIs.le h hx
  | agg ls => obtain ⟨vs, rfl, hx⟩ := hx; exact ⟨vs, rfl, LTIs.le h hx⟩
theorem PTIs.le {ok ok' : Nat → Prop} (h : ∀ k, ok k → ok' k) : ∀ {s : List PK} {x : PT s} {vs : List Value}, PTIs ok w s x vs → PTIs ok' w s x vs
  | [], _, _, hx => hx
  | [k], x, vs, hx => by
    simp only [PTIs] at hx ⊢
    obtain ⟨u, rfl, hx⟩ := hx
    exact ⟨u, rfl, PKIs.le h hx⟩
  | k :: k' :: r, x, vs, hx => by
    simp only [PTIs] at hx ⊢
    obtain ⟨u, us, rfl, h1, h2⟩ := hx
    exact ⟨u, us, rfl, PKIs.le h h1, PTIs.le h h2⟩
end
def unPtr (S : AS) (s : List SK) (x : PV) : Option (Tup s) := match x with
  | .rptr _ s' d off => bif Nat.beq off 0 then asTup s' s d else none
  | .ptr i off => match S.σ i with
    | .box _ cs => match unT S s ((cs.drop off).take s.length) with
      | some (y, _, l) => bif l.isEmpty then some y else none
      | none => none
    | _ => none
  | _ => none
def unSc (S : AS) (k : SK) (x : PV) : Option k.ty := match unK S k x with
  | some (y, _, l) => bif l.isEmpty then some y else none
  | none => none
def unCaps (S : AS) : (ss : List (List SK)) → List PV → Option (Tups ss)
  | [] => fun cs => match cs with
    | [] => some ()
    | _ => none
  | k :: r => match r with
    | [] => fun cs => match cs with
      | [c] => unPtr S k c
      | _ => none
    | k' :: r' => fun cs => match cs with
      | c :: cs => match unPtr S k c, unCaps S (k' :: r') cs with
        | some x, some y => some (x, y)
        | _, _ => none
      | [] => none
def unFn (S : AS) (f : Nat) (ss : List (List SK)) (x : PV) : Option (Tups ss) := match x with
  | .fn g caps => bif Nat.beq f g then unCaps S ss caps else none
  | _ => none
def unL (S : AS) (k : LK) (x : PV) : Option k.ty := match k with
  | .ptr s => unPtr S s x
  | .sc k => unSc S k x
  | .row _ s => match srcRow S s x with
    | some (l, _) => some l
    | none => none
  | .fnc f ss => unFn S f ss x
def unLs (S : AS) : (s : List LK) → List PV → Option (LT s)
  | [] => fun cs => match cs with
    | [] => some ()
    | _ => none
  | k :: r => match r with
    | [] => fun cs => match cs with
      | [c] => unL S k c
      | _ => none
    | k' :: r' => fun cs => match cs with
      | c :: cs => match unL S k c, unLs S (k' :: r') cs with
        | some x, some y => some (x, y)
        | _, _ => none
      | [] => none
def aggV : Value → Option (List PV)
  | .agg a => some (a.toList.map .v)
  | _ => none
def PV.parts : PV → Option (List PV)
  | .agg cs => some cs
  | .v x => aggV x
  | _ => none
theorem PV.parts_ok {m : Nm} {B0 : Nat} {w : World} {x : PV} {v : Value} {cs : List PV} (h : x.parts = some cs) (hx : RepV m B0 w x v) : ∃ vs : List Value, v = .agg vs.toArray ∧ RepVs m B0 w cs vs := by
  cases hx with
  | agg hx => cases h; exact ⟨_, rfl, hx⟩
  | v =>
    cases v with
    | agg a => cases h; exact ⟨a.toList, by simp, RepVs.exact _⟩
    | _ => cases h
  | _ => cases h
def unP (S : AS) (p : PK) (x : PV) : Option p.ty := match p with
  | .one l => unL S l x
  | .agg ls => match x.parts with
    | some cs => unLs S ls cs
    | none => none
def unPs (S : AS) : (s : List PK) → List PV → Option (PT s)
  | [] => fun cs => match cs with
    | [] => some ()
    | _ => none
  | k :: r => match r with
    | [] => fun cs => match cs with
      | [c] => unP S k c
      | _ => none
    | k' :: r' => fun cs => match cs with
      | c :: cs => match unP S k c, unPs S (k' :: r') cs with
        | some x, some y => some (x, y)
        | _, _ => none
      | [] => none
section
variable {w0 : Org} {N : Nat} {m : Nm} {S : AS} {a : Act} {w : World}
def rd (m : Nm) (S : AS) : Nat → Prop := fun b => m.F b ∨ ∃ j, blkOf m j (S.σ j) b
theorem rd_lt (hr : Rep w0 N m S a w) {b : Nat} (h : rd m S b) : b < w.heap.size := h.elim (hr.heap.flt b) (fun ⟨_, h⟩ => (blk_lt hr.heap h).1)
theorem frz_ok (hr : Rep w0 N m S a w) {f : Bool} : Stays (okOf ⟨m.v, m.b, frz m []⟩ w0.heap.size f) (rd m S) w w := fun b hb => ⟨hb.1.elim (fun h => .inl h) (fun ⟨_, h, _⟩ => by cases h), rfl⟩
theorem ok_rd {f : Bool} : Stays (okOf m w0.heap.size f) (rd m S) w w := fun b hb => ⟨.inl hb.1, rfl⟩
theorem src_is (hr : Rep w0 N m S a w) {s : List SK} {x : PV} {v : Value} {l : List (Tup s)} {f : Bool} (h : srcRow S s x = some (l, f)) (hx : RepV m w0.heap.size w x v) : SKIs (rd m S) w (.row s) l v := by
  unfold srcRow at h
  split at h
  · split at h
    · rename_i l2 hl
      cases h
      obtain ⟨rfl, rfl⟩ := asRows_some hl
      cases hx with | row hx => exact SKIs.move ok_rd hx
    · cases h
  · rename_i j
    split at h
    · rename_i fr T s' l' hσ
      split at h
      · rename_i l2 hl
        cases h
        obtain ⟨rfl, rfl⟩ := asRows_some hl
        cases hx with | own hx =>
        have hb := hr.heap.blk j
        rw [hσ] at hb
        obtain ⟨xs, b1, b2, b3⟩ := hb
        rw [← hx]
        exact own_is b1 (RowsIs.move ok_rd b2) (fun k hk => .inr ⟨j, by rw [hσ]; exact hk⟩)
      · cases h
    · cases h
  · cases h
    cases hx
    simp only [SKIs]
    exact ⟨none, _, rfl, Nat.zero_le _, fun i x hx => by simp at hx⟩
  · cases h
theorem unPtr_ok (hr : Rep w0 N m S a w) {s : List SK} {x : PV} {v : Value} {y : Tup s} (h : unPtr S s x = some y) (hx : RepV m w0.heap.size w x v) : SKIs (rd m S) w (.ptr s) y v := by
  unfold unPtr at h
  split at h
  · rename_i fr s' d off
    rcases cond_some h with ⟨h0, hh⟩ | ⟨_, h2⟩
    · have := Nat.eq_of_beq_eq_true h0
      subst this
      obtain ⟨rfl, rfl⟩ := asTup_some hh
      cases hx with | rptr hx =>
      rw [Nat.add_zero]
      exact SKIs.move ok_rd hx
    · cases h2
  · rename_i i off
    split at h
    · rename_i T cs hσ
      split at h
      · rename_i y' f l hq
        rcases cond_some h with ⟨h0, hh⟩ | ⟨_, h2⟩
        · cases hh
          have : l = [] := by simpa using h0
          subst this
          cases hx
          have hb := hr.heap.blk i
          rw [hσ] at hb
          obtain ⟨_, _, vs, hvs, hh⟩ := hb
          have ht := unT_ok hr hq ((hvs.drop off).take s.length)
          simp only [SKIs]
          refine ⟨m.b i, off, _, rfl, .inr ⟨i, by rw [hσ]; rfl⟩, TupIs.len ht, fun j u hu => ?_, TupIs.move (frz_ok hr) ht⟩
          have hj : j < s.length := by
            have := (List.getElem?_eq_some_iff.1 hu).1
            rw [List.length_take] at this
            omega
          rw [List.getElem?_take_of_lt hj, List.getElem?_drop] at hu
          have := CellsAt.of_block hh _ u hu
          rwa [Nat.zero_add] at this
        · cases h2
      · cases h
    · cases h
  · cases h
theorem unSc_ok (hr : Rep w0 N m S a w) {k : SK} {x : PV} {v : Value} {y : k.ty} (h : unSc S k x = some y) (hx : RepV m w0.heap.size w x v) : SKIs (rd m S) w k y v := by
  unfold unSc at h
  split at h
  · rename_i y' f l hq
    rcases cond_some h with ⟨h0, hh⟩ | ⟨_, h2⟩
    · cases hh
      have : l = [] := by simpa using h0
      subst this
      exact SKIs.move (frz_ok hr) (unK_ok hr hq hx)
    · cases h2
  · cases h
theorem unCaps_ok (hr : Rep w0 N m S a w) : ∀ {s : List (List SK)} {cs : List PV} {vs : List Value} {y : Tups s}, unCaps S s cs = some y → RepVs m w0.heap.size w cs vs → CapsIs (rd m S) w s y vs
  | [], cs, vs, y, h, hx => by
    match cs, h, hx with
    | [], h, .nil => simp only [CapsIs]
    | _ :: _, h, _ => simp [unCaps] at h
  | [k], cs, vs, y, h, hx => by
    match cs, h, hx with
    | [], h, _ => simp [unCaps] at h
    | [c], h, .cons hx .nil => simp only [unCaps] at h; simp only [CapsIs]; exact ⟨_, rfl, unPtr_ok hr h hx⟩
    | _ :: _ :: _, h, _ => simp [unCaps] at h
  | k :: k' :: r, cs, vs, y, h, hx => by
    match cs, h, hx with
    | [], h, _ => simp [unCaps] at h
    | c :: cs, h, .cons hx hs =>
      simp only [unCaps] at h
      split at h
      · rename_i x1 y1 h1 h2
        cases h
        simp only [CapsIs]
        exact ⟨_, _, rfl, unPtr_ok hr h1 hx, unCaps_ok hr h2 hs⟩
      · cases h
theorem unFn_ok (hr : Rep w0 N m S a w) {f : Nat} {ss : List (List SK)} {x : PV} {v : Value} {y : Tups ss} (h : unFn S f ss x = some y) (hx : RepV m w0.heap.size w x v) : ∃ cs : List Value, v = .func (.func f) #[] cs.toArray ∧ CapsIs (rd m S) w ss y cs := by
  unfold unFn at h
  split at h
  · rename_i g caps
    rcases cond_some h with ⟨h0, hh⟩ | ⟨_, h2⟩
    · have := Nat.eq_of_beq_eq_true h0
      subst this
      cases hx with | fn hx =>
      exact ⟨_, rfl, unCaps_ok hr hh hx⟩
    · cases h2
  · cases h
theorem unL_ok (hr : Rep w0 N m S a w) {k : LK} {x : PV} {v : Value} {y : k.ty} (h : unL S k x = some y) (hx : RepV m w0.heap.size w x v) : LKIs (rd m S) w k y v := by
  cases k with
  | ptr s => exact unPtr_ok hr h hx
  | sc k => exact unSc_ok hr h hx
  | fnc f ss => exact unFn_ok hr h hx
  | row T s =>
    simp only [unL] at h
    split at h
    · rename_i l f hs
      cases h
      exact src_is hr hs hx
    · cases h
theorem unLs_ok (hr : Rep w0 N m S a w) : ∀ {s : List LK} {cs : List PV} {vs : List Value} {y : LT s}, unLs S s cs = some y → RepVs m w0.heap.size w cs vs → LTIs (rd m S) w s y vs
  | [], cs, vs, y, h, hx => by
    match cs, h, hx with
    | [], h, .nil => simp only [LTIs]
    | _ :: _, h, _ => simp [unLs] at h
  | [k], cs, vs, y, h, hx => by
    match cs, h, hx with
    | [], h, _ => simp [unLs] at h
    | [c], h, .cons hx .nil => simp only [unLs] at h; simp only [LTIs]; exact ⟨_, rfl, unL_ok hr h hx⟩
    | _ :: _ :: _, h, _ => simp [unLs] at h
  | k :: k' :: r, cs, vs, y, h, hx => by
    match cs, h, hx with
    | [], h, _ => simp [unLs] at h
    | c :: cs, h, .cons hx hs =>
      simp only [unLs] at h
      split at h
      · rename_i x1 y1 h1 h2
        cases h
        simp only [LTIs]
        exact ⟨_, _, rfl, unL_ok hr h1 hx, unLs_ok hr h2 hs⟩
      · cases h
theorem unP_ok (hr : Rep w0 N m S a w) {p : PK} {x : PV} {v : Value} {y : p.ty} (h : unP S p x = some y) (hx : RepV m w0.heap.size w x v) : PKIs (rd m S) w p y v := by
  cases p with
  | one l => exact unL_ok hr h hx
  | agg ls =>
    simp only [unP] at h
    split at h
    · rename_i cs hp
      obtain ⟨vs, rfl, hvs⟩ := PV.parts_ok hp hx
      exact ⟨vs, rfl, unLs_ok hr h hvs⟩
    · cases h
theorem unPs_ok (hr : Rep w0 N m S a w) : ∀ {s : List PK} {cs : List PV} {vs : List Value} {y : PT s}, unPs S s cs = some y → RepVs m w0.heap.size w cs vs → PTIs (rd m S) w s y vs
  | [], cs, vs, y, h, hx => by
    match cs, h, hx with
    | [], h, .nil => simp only [PTIs]
    | _ :: _, h, _ => simp [unPs] at h
  | [k], cs, vs, y, h, hx => by
    match cs, h, hx with
    | [], h, _ => simp [unPs] at h
    | [c], h, .cons hx .nil => simp only [unPs] at h; simp only [PTIs]; exact ⟨_, rfl, unP_ok hr h hx⟩
    | _ :: _ :: _, h, _ => simp [unPs] at h
  | k :: k' :: r, cs, vs, y, h, hx => by
    match cs, h, hx with
    | [], h, _ => simp [unPs] at h
    | c :: cs, h, .cons hx hs =>
      simp only [unPs] at h
      split at h
      · rename_i x1 y1 h1 h2
        cases h
        simp only [PTIs]
        exact ⟨_, _, rfl, unP_ok hr h1 hx, unPs_ok hr h2 hs⟩
      · cases h
end
end Ex
end Go.Proofs.YthlhbnaloefncaaGreatDoor
namespace Go.Proofs
open Go.Shelf
open Go.RowKit Go.Lib in
open Go.RowKit Go.Lib in
open Go.RowKit Go.Lib in
open Go.RowKit Go.Lib in
open Go.RowKit Go.Lib in
open Go.RowKit Go.Lib in
open Go.RowKit Go.Lib in
open Go.RowKit Go.Lib in
open Go.RowKit Go.Lib in
def Tryz.lays145_ren : Go.Shelf.Ren := ⟨fun | 145 => 161 | 220 => 201 | 219 => 214 | 217 => 231 | 225 => 232 | 224 => 233 | 267 => 234 | 266 => 243 | 314 => 244 | n => n, fun | 9 => 9 | 4 => 4 | 59 => 166 | 3 => 3 | 5 => 5 | 46 => 177 | 146 => 223 | 51 => 207 | n => n, fun | 1 => 0 | n => n⟩
theorem Tryz.lays145 : Go.Proofs.Lays.n145 Tryz.prog Tryz.lays145_ren := {
  mixed := by kernel_rfl
  f145 := Tryz.func161.trans (congrArg some (by kernel_rfl))
  f217 := Tryz.func231.trans (congrArg some (by kernel_rfl))
  f219 := Tryz.func214.trans (congrArg some (by kernel_rfl))
  f220 := Tryz.func201.trans (congrArg some (by kernel_rfl))
  f224 := Tryz.func233.trans (congrArg some (by kernel_rfl))
  f225 := Tryz.func232.trans (congrArg some (by kernel_rfl))
  f266 := Tryz.func243.trans (congrArg some (by kernel_rfl))
  f267 := Tryz.func234.trans (congrArg some (by kernel_rfl))
  f314 := Tryz.func244.trans (congrArg some (by kernel_rfl))
  t3 := Tryz.underlying3
  a3 := Tryz.isAgg3
  z3 := Tryz.sizeOf3
  v3 := Tryz.zeroValue3
  t4 := Tryz.underlying4
  a4 := Tryz.isAgg4
  z4 := Tryz.sizeOf4
  v4 := Tryz.zeroValue4
  t5 := Tryz.underlying5
  a5 := Tryz.isAgg5
  z5 := Tryz.sizeOf5
  v5 := Tryz.zeroValue5
  t9 := Tryz.underlying9
  a9 := Tryz.isAgg9
  z9 := Tryz.sizeOf9
  v9 := Tryz.zeroValue9
  t46 := Tryz.underlying177
  a46 := Tryz.isAgg177
  z46 := Tryz.sizeOf177
  v46 := Tryz.zeroValue177
  t51 := Tryz.underlying207
  a51 := Tryz.isAgg207
  z51 := Tryz.sizeOf207
  v51 := Tryz.zeroValue207
  t59 := Tryz.underlying166
  a59 := Tryz.isAgg166
  z59 := Tryz.sizeOf166
  v59 := Tryz.zeroValue166
  t146 := Tryz.underlying223
  a146 := Tryz.isAgg223
  z146 := Tryz.sizeOf223
  v146 := Tryz.zeroValue223
  g1 := by kernel_rfl }
open Go.RowKit Go.Lib in
theorem Tryz.strings_Cut (s sep : ByteArray) (m : Int) (w : World) (hs : s.size < 4294967281) (hm : w.cell? ⟨0, 0, none⟩ = some (.int .i64 m)) :
    Calls Tryz.prog 161 #[.string s, .string sep] w fun e w' => e = .returned (.tuple #[.string ⟨(Lib.cut s.data.toList sep.data.toList).1.toArray⟩, .string ⟨(Lib.cut s.data.toList sep.data.toList).2.1.toArray⟩, .bool (Lib.cut s.data.toList sep.data.toList).2.2]) ∧ ∃ n, w' = w.drewN n := Any.strings_Cut Tryz.lays145 s sep m w hs hm
open Go.RowKit Go.Lib in
open Go.RowKit Go.Lib in
open Go.RowKit Go.Lib in
open Go.RowKit Go.Lib in
open Go.RowKit Go.Lib in
open Go.RowKit Go.Lib in
open Go.RowKit Go.Lib in
def Tryz.lays189_ren : Go.Shelf.Ren := ⟨fun | 189 => 181 | 125 => 207 | 257 => 206 | 128 => 226 | 129 => 227 | 294 => 217 | 295 => 218 | 296 => 219 | 297 => 220 | 298 => 221 | 299 => 222 | 216 => 223 | 300 => 224 | 301 => 225 | 328 => 237 | 329 => 238 | 330 => 239 | 331 => 240 | 332 => 241 | 215 => 179 | 343 => 245 | n => n, fun | 28 => 39 | 3 => 3 | 46 => 177 | 0 => 0 | 51 => 207 | 53 => 209 | 4 => 4 | 183 => 201 | 182 => 200 | 131 => 107 | 5 => 5 | 9 => 9 | 218 => 218 | 222 => 135 | 228 => 225 | 229 => 226 | n => n, fun | n => n⟩
theorem Tryz.lays189 : Go.Proofs.Lays.n189 Tryz.prog Tryz.lays189_ren := {
  mixed := by kernel_rfl
  f125 := Tryz.func207.trans (congrArg some (by kernel_rfl))
  f128 := Tryz.func226.trans (congrArg some (by kernel_rfl))
  f129 := Tryz.func227.trans (congrArg some (by kernel_rfl))
  f189 := Tryz.func181.trans (congrArg some (by kernel_rfl))
  f215 := Tryz.func179.trans (congrArg some (by kernel_rfl))
  f216 := Tryz.func223.trans (congrArg some (by kernel_rfl))
  f257 := Tryz.func206.trans (congrArg some (by kernel_rfl))
  f294 := Tryz.func217.trans (congrArg some (by kernel_rfl))
  f295 := Tryz.func218.trans (congrArg some (by kernel_rfl))
  f296 := Tryz.func219.trans (congrArg some (by kernel_rfl))
  f297 := Tryz.func220.trans (congrArg some (by kernel_rfl))
  f298 := Tryz.func221.trans (congrArg some (by kernel_rfl))
  f299 := Tryz.func222.trans (congrArg some (by kernel_rfl))
  f300 := Tryz.func224.trans (congrArg some (by kernel_rfl))
  f301 := Tryz.func225.trans (congrArg some (by kernel_rfl))
  f328 := Tryz.func237.trans (congrArg some (by kernel_rfl))
  f329 := Tryz.func238.trans (congrArg some (by kernel_rfl))
  f330 := Tryz.func239.trans (congrArg some (by kernel_rfl))
  f331 := Tryz.func240.trans (congrArg some (by kernel_rfl))
  f332 := Tryz.func241.trans (congrArg some (by kernel_rfl))
  f343 := Tryz.func245.trans (congrArg some (by kernel_rfl))
  t0 := Tryz.underlying0
  a0 := Tryz.isAgg0
  z0 := Tryz.sizeOf0
  v0 := Tryz.zeroValue0
  t3 := Tryz.underlying3
  a3 := Tryz.isAgg3
  z3 := Tryz.sizeOf3
  v3 := Tryz.zeroValue3
  t4 := Tryz.underlying4
  a4 := Tryz.isAgg4
  z4 := Tryz.sizeOf4
  v4 := Tryz.zeroValue4
  t5 := Tryz.underlying5
  a5 := Tryz.isAgg5
  z5 := Tryz.sizeOf5
  v5 := Tryz.zeroValue5
  t9 := Tryz.underlying9
  a9 := Tryz.isAgg9
  z9 := Tryz.sizeOf9
  v9 := Tryz.zeroValue9
  t28 := Tryz.underlying39
  a28 := Tryz.isAgg39
  z28 := Tryz.sizeOf39
  v28 := Tryz.zeroValue39
  t46 := Tryz.underlying177
  a46 := Tryz.isAgg177
  z46 := Tryz.sizeOf177
  v46 := Tryz.zeroValue177
  t51 := Tryz.underlying207
  a51 := Tryz.isAgg207
  z51 := Tryz.sizeOf207
  v51 := Tryz.zeroValue207
  t53 := Tryz.underlying209
  a53 := Tryz.isAgg209
  z53 := Tryz.sizeOf209
  v53 := Tryz.zeroValue209
  t131 := Tryz.underlying107
  a131 := Tryz.isAgg107
  z131 := Tryz.sizeOf107
  v131 := Tryz.zeroValue107
  t182 := Tryz.underlying200
  a182 := Tryz.isAgg200
  z182 := Tryz.sizeOf200
  v182 := Tryz.zeroValue200
  t183 := Tryz.underlying201
  a183 := Tryz.isAgg201
  z183 := Tryz.sizeOf201
  v183 := Tryz.zeroValue201
  t218 := Tryz.underlying218
  a218 := Tryz.isAgg218
  z218 := Tryz.sizeOf218
  v218 := Tryz.zeroValue218
  t222 := Tryz.underlying135
  a222 := Tryz.isAgg135
  z222 := Tryz.sizeOf135
  v222 := Tryz.zeroValue135
  t228 := Tryz.underlying225
  a228 := Tryz.isAgg225
  z228 := Tryz.sizeOf225
  v228 := Tryz.zeroValue225
  t229 := Tryz.underlying226
  a229 := Tryz.isAgg226
  z229 := Tryz.sizeOf226
  v229 := Tryz.zeroValue226 }
open Go.Sort Go.RowKit in
theorem Tryz.slices_Sort_int (blk off cap : Nat) (zs : List Int) (w : World) (hH : Holds (Value.int .i64) w blk off zs.toArray) (hblk : blk < w.heap.size) (hsz : zs.length < 4611686018427387904) :
    Calls Tryz.prog 181 #[.slice (some ⟨blk, off, none⟩) zs.length cap] w fun e w' =>
      e = .returned (.tuple #[]) ∧ ∃ n os, w' = grow (putRow (Value.int .i64) (Sort.ahead w n) blk off (zs.mergeSort fun x y => decide (x ≤ y)).toArray) os := Any.slices_Sort_int Tryz.lays189 blk off cap zs w hH hblk hsz
open Go.RowKit Go.Lib in
open Go.RowKit Go.Lib in
def Tryz.lays102_ren : Go.Shelf.Ren := ⟨fun | 102 => 160 | 209 => 200 | 207 => 213 | n => n, fun | 9 => 9 | 4 => 4 | 3 => 3 | n => n, fun | n => n⟩
theorem Tryz.lays102 : Go.Proofs.Lays.n102 Tryz.prog Tryz.lays102_ren := {
  mixed := by kernel_rfl
  f102 := Tryz.func160.trans (congrArg some (by kernel_rfl))
  f207 := Tryz.func213.trans (congrArg some (by kernel_rfl))
  f209 := Tryz.func200.trans (congrArg some (by kernel_rfl))
  t3 := Tryz.underlying3
  a3 := Tryz.isAgg3
  z3 := Tryz.sizeOf3
  v3 := Tryz.zeroValue3
  t4 := Tryz.underlying4
  a4 := Tryz.isAgg4
  z4 := Tryz.sizeOf4
  v4 := Tryz.zeroValue4
  t9 := Tryz.underlying9
  a9 := Tryz.isAgg9
  z9 := Tryz.sizeOf9
  v9 := Tryz.zeroValue9 }
open Go.RowKit Go.Lib in
theorem Tryz.strings_TrimSuffix (s p : ByteArray) (w : World) (hs : s.size ≤ 9223372036854775807) :
    Calls Tryz.prog 160 #[.string s, .string p] w fun e w' => e = .returned (.string ⟨(Lib.trimSuffix s.data.toList p.data.toList).toArray⟩) ∧ w' = w := Any.strings_TrimSuffix Tryz.lays102 s p w hs
open Go.RowKit Go.Lib in
open Go.RowKit Go.Lib in
def Tryz.lays146_ren : Go.Shelf.Ren := ⟨fun | 146 => 159 | 221 => 199 | 268 => 210 | 138 => 211 | 143 => 212 | 195 => 228 | 197 => 229 | 218 => 230 | 219 => 214 | 260 => 242 | 217 => 231 | 225 => 232 | 224 => 233 | 267 => 234 | 266 => 243 | 314 => 244 | n => n, fun | 9 => 9 | 31 => 98 | 3 => 3 | 4 => 4 | 0 => 0 | 105 => 212 | 21 => 21 | 5 => 5 | 46 => 177 | 119 => 228 | 139 => 231 | 138 => 230 | 146 => 223 | 51 => 207 | n => n, fun | 1 => 0 | 3 => 1 | 4 => 2 | n => n⟩
theorem Tryz.lays146 : Go.Proofs.Lays.n146 Tryz.prog Tryz.lays146_ren := {
  mixed := by kernel_rfl
  f138 := Tryz.func211.trans (congrArg some (by kernel_rfl))
  f143 := Tryz.func212.trans (congrArg some (by kernel_rfl))
  f146 := Tryz.func159.trans (congrArg some (by kernel_rfl))
  f195 := Tryz.func228.trans (congrArg some (by kernel_rfl))
  f197 := Tryz.func229.trans (congrArg some (by kernel_rfl))
  f217 := Tryz.func231.trans (congrArg some (by kernel_rfl))
  f218 := Tryz.func230.trans (congrArg some (by kernel_rfl))
  f219 := Tryz.func214.trans (congrArg some (by kernel_rfl))
  f221 := Tryz.func199.trans (congrArg some (by kernel_rfl))
  f224 := Tryz.func233.trans (congrArg some (by kernel_rfl))
  f225 := Tryz.func232.trans (congrArg some (by kernel_rfl))
  f260 := Tryz.func242.trans (congrArg some (by kernel_rfl))
  f266 := Tryz.func243.trans (congrArg some (by kernel_rfl))
  f267 := Tryz.func234.trans (congrArg some (by kernel_rfl))
  f268 := Tryz.func210.trans (congrArg some (by kernel_rfl))
  f314 := Tryz.func244.trans (congrArg some (by kernel_rfl))
  t0 := Tryz.underlying0
  a0 := Tryz.isAgg0
  z0 := Tryz.sizeOf0
  v0 := Tryz.zeroValue0
  t3 := Tryz.underlying3
  a3 := Tryz.isAgg3
  z3 := Tryz.sizeOf3
  v3 := Tryz.zeroValue3
  t4 := Tryz.underlying4
  a4 := Tryz.isAgg4
  z4 := Tryz.sizeOf4
  v4 := Tryz.zeroValue4
  t5 := Tryz.underlying5
  a5 := Tryz.isAgg5
  z5 := Tryz.sizeOf5
  v5 := Tryz.zeroValue5
  t9 := Tryz.underlying9
  a9 := Tryz.isAgg9
  z9 := Tryz.sizeOf9
  v9 := Tryz.zeroValue9
  t21 := Tryz.underlying21
  a21 := Tryz.isAgg21
  z21 := Tryz.sizeOf21
  v21 := Tryz.zeroValue21
  t31 := Tryz.underlying98
  a31 := Tryz.isAgg98
  z31 := Tryz.sizeOf98
  v31 := Tryz.zeroValue98
  t46 := Tryz.underlying177
  a46 := Tryz.isAgg177
  z46 := Tryz.sizeOf177
  v46 := Tryz.zeroValue177
  t51 := Tryz.underlying207
  a51 := Tryz.isAgg207
  z51 := Tryz.sizeOf207
  v51 := Tryz.zeroValue207
  t105 := Tryz.underlying212
  a105 := Tryz.isAgg212
  z105 := Tryz.sizeOf212
  v105 := Tryz.zeroValue212
  t119 := Tryz.underlying228
  a119 := Tryz.isAgg228
  z119 := Tryz.sizeOf228
  t138 := Tryz.underlying230
  a138 := Tryz.isAgg230
  z138 := Tryz.sizeOf230
  v138 := Tryz.zeroValue230
  t139 := Tryz.underlying231
  a139 := Tryz.isAgg231
  z139 := Tryz.sizeOf231
  v139 := Tryz.zeroValue231
  t146 := Tryz.underlying223
  a146 := Tryz.isAgg223
  z146 := Tryz.sizeOf223
  v146 := Tryz.zeroValue223
  g1 := by kernel_rfl
  g3 := by kernel_rfl
  g4 := by kernel_rfl }
open Go.RowKit Go.Lib in
theorem Tryz.strings_Split (s sep : ByteArray) (m : Int) (w : World) (hs : s.size < 4294967281) (hm : w.cell? ⟨0, 0, none⟩ = some (.int .i64 m)) (h1 : 1 ≤ sep.size) :
    Calls Tryz.prog 159 #[.string s, .string sep] w fun e w' =>
      e = .returned (.slice (some ⟨w.heap.size, 0, none⟩) (Lib.countB s sep + 1) (Lib.countB s sep + 1)) ∧ w' = w.alloc (.cells ((Lib.splitB sep 0 (Lib.countB s sep) s).map Value.string).toArray 9) := Any.strings_Split Tryz.lays146 (by kernel_rfl) s sep m w hs hm h1
open Go.RowKit Go.Lib in
open Go.RowKit Go.Sort in
theorem Tryz.slices_Sort_int_none (p : Option Addr) (cap : Nat) (w : World) :
    Calls Tryz.prog 181 #[.slice p 0 cap] w fun e w' => e = .returned (.tuple #[]) ∧ w' = w := Any.slices_Sort_int_none Tryz.lays189 p cap w
end Go.Proofs
namespace Go.Proofs.YthlhbnaloefncaaGreatDoor
namespace Ex
open Go Go.RowKit Go.WideShapes
mutual
/-- What is known of data that came in: numbers are of their kind, nothing is longer than the machine counts. -/
def SK.okv : (k : SK) → k.ty → Prop
  | .int k, n => (Lit.int k n).wf = true
  | .bool, _ => True
  | .str, s => ByteArray.size s ≤ 9223372036854775807
  | .row s, l => List.length (α := Tup s) l ≤ 9223372036854775807 ∧ ∀ x ∈ (show List (Tup s) from l), okvT s x
  | .ptr _, _ => False
  | .adr, _ => False
  | .fnc _, _ => False
def okvT : (s : List SK) → Tup s → Prop
  | [] => fun _ => True
  | k :: r => match r with
    | [] => fun x => k.okv x
    | k' :: r' => fun x => k.okv x.1 ∧ okvT (k' :: r') x.2
end
def OpK (P : Program) (t : TypeId) (k : SK) : Prop :=
  ∀ {H : Type} (enc : TypeId × Value → H) (W : World) (fuel : Nat) (cs : List Value) (x : DataW H × List MemPlace), DataW.trod enc P W 0 (fun _ => true) true fuel t cs = some x → ∃ (y : k.ty) (u : Value), cs = [u] ∧ SKIs (fun b => b < W.heap.size) W k y u ∧ k.okv y
def OpT (P : Program) (t : TypeId) (s : List SK) : Prop :=
  ∀ {H : Type} (enc : TypeId × Value → H) (W : World) (fuel : Nat) (cs : List Value) (x : DataW H × List MemPlace), DataW.trod enc P W 0 (fun _ => true) true fuel t cs = some x → ∃ y : Tup s, TupIs (fun b => b < W.heap.size) W s y cs ∧ okvT s y
section
variable {P : Program}
theorem OpK.int {t : TypeId} {k : IntKind} (ht : P.underlying t = some (.int k)) : OpK P t (.int k) := by
  intro H enc W fuel cs x h
  obtain ⟨s, rfl, _, h3⟩ := DataW.trod_int ht h
  exact ⟨s, _, rfl, by simp only [SKIs], by simp only [SK.okv]; exact h3⟩
theorem OpK.str {t : TypeId} (ht : P.underlying t = some .string) : OpK P t .str := by
  intro H enc W fuel cs x h
  obtain ⟨s, rfl, _, h3⟩ := DataW.trod_string ht h
  exact ⟨s, _, rfl, by simp only [SKIs], by simp only [SK.okv]; exact h3⟩
theorem OpK.bool {t : TypeId} (ht : P.underlying t = some .bool) : OpK P t .bool := by
  intro H enc W fuel cs x h
  obtain ⟨s, rfl, _⟩ := DataW.trod_bool ht h
  exact ⟨s, _, rfl, by simp only [SKIs], by simp only [SK.okv]⟩
theorem OpK.t {t : TypeId} {k : SK} (h : OpK P t k) : OpT P t [k] := by
  intro H enc W fuel cs x hx
  obtain ⟨y, u, rfl, h1, h2⟩ := h enc W fuel cs x hx
  exact ⟨y, by simp only [TupIs]; exact ⟨u, rfl, h1⟩, by simp only [okvT]; exact h2⟩
theorem tup_app {ok : Nat → Prop} {W : World} : ∀ {a b : List SK} {c1 c2 : List Value}, (∃ y : Tup a, TupIs ok W a y c1 ∧ okvT a y) → (∃ y : Tup b, TupIs ok W b y c2 ∧ okvT b y) → ∃ y : Tup (a ++ b), TupIs ok W (a ++ b) y (c1 ++ c2) ∧ okvT (a ++ b) y
  | [], b, c1, c2, ⟨y, h1, _⟩, h2 => by
    simp only [TupIs] at h1
    subst h1
    exact h2
  | [k], [], c1, c2, h1, ⟨y, h2, _⟩ => by
    simp only [TupIs] at h2
    subst h2
    simpa using h1
  | [k], k' :: r, c1, c2, ⟨y, h1, h1'⟩, ⟨z, h2, h2'⟩ => by
    simp only [TupIs] at h1
    obtain ⟨u, rfl, h1⟩ := h1
    exact ⟨(y, z), by simp only [List.singleton_append, TupIs]; exact ⟨u, c2, rfl, h1, h2⟩, by simp only [List.singleton_append, okvT]; exact ⟨h1', h2'⟩⟩
  | k :: k' :: r, b, c1, c2, ⟨y, h1, h1'⟩, h2 => by
    simp only [TupIs] at h1
    simp only [okvT] at h1'
    obtain ⟨u, us, rfl, h1, h3⟩ := h1
    obtain ⟨z, z1, z2⟩ := tup_app (a := k' :: r) ⟨y.2, h3, h1'.2⟩ h2
    exact ⟨(y.1, z), by simp only [List.cons_append, TupIs]; exact ⟨u, us ++ c2, rfl, h1, z1⟩, by simp only [List.cons_append, okvT]; exact ⟨h1'.1, z2⟩⟩
def OpFs (P : Program) : Nat → List Field → List (List SK) → Prop
  | _, [], [] => True
  | off, f :: r, l :: ls => f.offset = off ∧ P.cellsOf f.type = l.length ∧ OpT P f.type l ∧ OpFs P (off + l.length) r ls
  | _, _, _ => False
theorem seg_open {H : Type} {enc : TypeId × Value → H} {W : World} {n : Nat} (cs : List Value) : ∀ (fs : List Field) (lss : List (List SK)) (off : Nat), OpFs P off fs lss →
    (∀ (i : Nat) (f : Field), fs[i]? = some f → ∃ y, DataW.trod enc P W 0 (fun _ => true) true n f.type ((cs.drop f.offset).take (P.cellsOf f.type)) = some y) → off + lss.flatten.length = cs.length → ∃ y : Tup lss.flatten, TupIs (fun b => b < W.heap.size) W lss.flatten y (cs.drop off) ∧ okvT lss.flatten y
  | [], [], off, _, _, hl => by
    rw [List.drop_eq_nil_of_le (by simp at hl; omega)]
    exact ⟨(), by simp [TupIs], by simp [okvT]⟩
  | [], _ :: _, _, h, _, _ => h.elim
  | _ :: _, [], _, h, _, _ => h.elim
  | f :: r, l :: ls, off, h, hf, hl => by
    obtain ⟨h1, h2, h3, h4⟩ := h
    obtain ⟨y, hy⟩ := hf 0 f rfl
    rw [h1, h2] at hy
    have a1 := h3 enc W n _ y hy
    have a2 := seg_open cs r ls (off + l.length) h4 (fun i g hg => hf (i + 1) g hg) (by simp only [List.flatten_cons, List.length_append] at hl; omega)
    have e : cs.drop off = (cs.drop off).take l.length ++ cs.drop (off + l.length) := by rw [← List.drop_drop, List.take_append_drop]
    rw [e, List.flatten_cons]
    exact tup_app a1 a2
theorem OpT.struct {t : TypeId} {fs : Array Field} {lss : List (List SK)} (ht : P.underlying t = some (.struct fs)) (h : OpFs P 0 fs.toList lss) (hC : P.cellsOf t = lss.flatten.length) : OpT P t lss.flatten := by
  intro H enc W fuel cs x hx
  obtain ⟨xs, n, _, rfl, hl, hlen, hf⟩ := DataW.trod_struct ht hx
  have := seg_open (enc := enc) (W := W) (n := n) cs fs.toList lss 0 h (fun i f hi => by
    have hi' : fs[i]? = some f := by simpa using hi
    have h1 := hf i f hi'
    have hlt : i < xs.length := by rw [hlen]; exact (Array.getElem?_eq_some_iff.1 hi').1
    rw [List.getElem?_eq_getElem hlt] at h1
    exact ⟨_, h1⟩) (by rw [Nat.zero_add, ← hC, hl])
  simpa using this
theorem list_of {α : Type} {n : Nat} {Q : Nat → α → Prop} (h : ∀ i, i < n → ∃ a, Q i a) : ∃ l : List α, l.length = n ∧ ∀ i (hi : i < l.length), Q i l[i] := by
  induction n with
  | zero => exact ⟨[], rfl, fun i hi => absurd hi (Nat.not_lt_zero i)⟩
  | succ n ih =>
    obtain ⟨l, hl, hq⟩ := ih (fun i hi => h i (by omega))
    obtain ⟨a, ha⟩ := h n (by omega)
    refine ⟨l ++ [a], by simp [hl], fun i hi => ?_⟩
    rcases Nat.lt_or_ge i l.length with h1 | h1
    · rw [List.getElem_append_left h1]; exact hq i h1
    · have : i = n := by simp at hi; omega
      subst this
      rw [List.getElem_append_right (by omega)]
      simpa [hl] using ha
theorem OpK.row {t e : TypeId} {s : List SK} (ht : P.underlying t = some (.slice e)) (hc : P.cellsOf e = s.length) (h0 : 0 < s.length) (ho : OpT P e s) : OpK P t (.row s) := by
  intro H enc W fuel cs x h
  rcases DataW.trod_slice ht h with ⟨rfl, _⟩ | ⟨a, len, cap, elems, rest, n, rfl, rfl, _, _, hlc, hcm, hel, he, _, _⟩
  · refine ⟨([] : List (Tup s)), _, rfl, ?_, ?_⟩
    · simp only [SKIs]
      exact ⟨none, 0, rfl, Nat.le_refl _, fun i x hx => by simp at hx⟩
    · simp only [SK.okv]
      exact ⟨by simp, fun x hx => by cases hx⟩
  · have hm : len ≤ 9223372036854775807 := by unfold maxLen at hcm; omega
    have hex : ∀ i, i < len → ∃ y : Tup s, ∃ c : List Value, c.length = s.length ∧ (∀ (j : Nat) u, c[j]? = some u → W.cell? (a.add (i * s.length + j)) = some u) ∧ TupIs (fun b => b < W.heap.size) W s y c ∧ okvT s y := by
      intro i hi
      have h1 := he i hi
      have hl : i < elems.length := by omega
      rw [List.getElem?_eq_getElem hl, hc] at h1
      obtain ⟨c, hcs, htr⟩ := Option.bind_eq_some_iff.1 h1
      obtain ⟨y, hK, hok⟩ := ho enc W n c _ htr
      refine ⟨y, c, TupIs.len hK, fun j u hj => ?_, hK, hok⟩
      unfold World.cells? at hcs
      split at hcs
      · have hlen := mapM_some_length hcs
        have hjl : j < c.length := (List.getElem?_eq_some_iff.1 hj).1
        have := mapM_some_get hcs j j (by simp only [List.length_range] at hlen; rw [List.getElem?_range (by omega)])
        rw [hj] at this
        have e1 : (a.add (i * s.length)).add j = a.add (i * s.length + j) := by
          generalize i * s.length = q
          unfold Addr.add
          by_cases h0 : q = 0 <;> by_cases hj0 : j = 0 <;> simp [h0, hj0, Nat.add_assoc]
        rw [e1] at this
        exact this
      · simp at hcs
    obtain ⟨l, hl, hq⟩ := list_of hex
    refine ⟨l, _, rfl, ?_, ?_⟩
    · simp only [SKIs]
      refine ⟨some a, cap, by rw [show List.length (α := Tup s) l = len from hl], by rw [show List.length (α := Tup s) l = len from hl]; exact hlc, fun i x hx => ?_⟩
      obtain ⟨hi, rfl⟩ := List.getElem?_eq_some_iff.1 hx
      obtain ⟨c, q1, q2, q3, q4⟩ := hq i hi
      have hsp : a.spot = none ∧ a.block < W.heap.size := by
        obtain ⟨c0, p1, p2, _, _⟩ := hq 0 (by omega)
        have hcell := p2 0 c0[0] (List.getElem?_eq_getElem (by omega))
        have hz : a.add (0 * s.length + 0) = a := by simp [Addr.add]
        rw [hz] at hcell
        unfold World.cell? at hcell
        split at hcell
        · rename_i cc _ _ hh
          refine ⟨?_, (Array.getElem?_eq_some_iff.1 hh).1⟩
          split at hcell
          · cases hcell
          · rename_i hs
            simpa using hs
        · cases hcell
      obtain ⟨b, o, sp⟩ := a
      obtain ⟨h1, h2⟩ := hsp
      simp only at h1 h2
      subst h1
      refine ⟨b, o, c, rfl, h2, q1, fun j u hj => ?_, q3⟩
      have := q2 j u hj
      have hadd : (⟨b, o, none⟩ : Addr).add (i * s.length + j) = ⟨b, o + (i * s.length + j), none⟩ := by unfold Addr.add; split <;> simp_all
      rw [hadd] at this
      rw [Nat.add_assoc]
      exact this
    · simp only [SK.okv]
      refine ⟨by rw [show List.length (α := Tup s) l = len from hl]; exact hm, fun y hy => ?_⟩
      obtain ⟨j, hjl, rfl⟩ := List.mem_iff_getElem.1 hy
      obtain ⟨_, _, _, _, q⟩ := hq j hjl
      exact q
theorem open_one {H : Type} {enc : TypeId × Value → H} {W : World} {t : TypeId} {k : SK} {v : Value} {y : DataW H} {p : List MemPlace} (ho : OpK P t k) (hv : v.cells = #[v]) (h : DataW.Trod enc P W 0 (fun _ => true) true t v y p) : ∃ a : k.ty, SKIs (fun b => b < W.heap.size) W k a v ∧ k.okv a := by
  obtain ⟨fuel, hf⟩ := h
  rw [hv] at hf
  obtain ⟨a, u, hu, h1, h2⟩ := ho enc W fuel _ _ hf
  have : v = u := by simpa using hu
  subst this
  exact ⟨a, h1, h2⟩
theorem open_agg {H : Type} {enc : TypeId × Value → H} {W w : World} {r : Reach} {b0 : Nat} {t : TypeId} {fs : Array Field} {s : List SK} {v : Value} {y : DataW H} {p : List MemPlace} (hs : P.underlying t = some (.struct fs)) (ho : OpT P t s)
    (hv : Value.okWide P w r b0 t v) (h : DataW.Trod enc P W 0 (fun _ => true) true t v y p) : ∃ (a : Tup s) (vs : List Value), v = .agg vs.toArray ∧ TupIs (fun b => b < W.heap.size) W s a vs ∧ okvT s a := by
  obtain ⟨cs, rfl, _⟩ := okWide_struct hs hv
  obtain ⟨fuel, hf⟩ := h
  obtain ⟨a, h1, h2⟩ := ho enc W fuel cs.toList _ (by simpa [Value.cells] using hf)
  exact ⟨a, cs.toList, by simp, h1, h2⟩
theorem cells_slice {w : World} {r : Reach} {b0 : Nat} {t e : TypeId} {v : Value} (ht : P.underlying t = some (.slice e)) (h : Value.okWide P w r b0 t v) : v.cells = #[v] := by
  obtain ⟨a, l, c, rfl⟩ := okWide_slice ht h; rfl
theorem rets_bool {w w' : World} {b : Bool} {v : Value} (h : Rets [.one (.sc .bool)] w w' b v) : v = .bool b := by
  obtain ⟨vs, rv, Fz, rfl, h, _⟩ := h.ex
  simp only [PTNew, PKNew, LKNew] at h
  obtain ⟨u, rfl, rfl, h⟩ := h
  simpa only [SKIs, retV] using h
end
end Ex
namespace Ex
open Go Go.RowKit
theorem rets_strs {T : TypeId} {xs : List ByteArray} {v : Value} {w w' : World} (h : w'.ownsRow w.heap.size T 1 v xs.length (xs.map Value.string)) : Rets [.one (.row T [.str])] w w' xs v :=
  ⟨⟨[v], [v], fun _ => False, rfl, ⟨v, rfl, rfl, xs.map Value.string, h, fun i x hx => by
      have hx' : xs[i]? = some (show ByteArray from x) := hx
      have hi : i < xs.length := (List.getElem?_eq_some_iff.1 hx').1
      have e : xs[i] = (show ByteArray from x) := (List.getElem?_eq_some_iff.1 hx').2
      simp only [TupIs]
      refine ⟨.string x, ?_, by simp only [SKIs]⟩
      show ((xs.map Value.string).drop (i * 1)).take 1 = _
      rw [Nat.mul_one, List.drop_eq_getElem_cons (by rw [List.length_map]; exact hi), List.getElem_map, e]
      rfl⟩, ⟨fun u hu => (by cases hu), trivial⟩, fun u hu k hk hf => hf, fun k hk => hk.elim⟩⟩
theorem rets_int_bool (n : Int) (b : Bool) (w w' : World) : Rets [.one (.sc (.int .i64)), .one (.sc .bool)] w w' (n, b) (.tuple #[.int .i64 n, .bool b]) :=
  ⟨⟨[.int .i64 n, .bool b], [], fun _ => False, rfl, ⟨_, [.bool b], [], [], rfl, rfl, ⟨rfl, by simp only [SKIs]⟩, _, rfl, rfl, by simp only [SKIs]⟩, trivial, fun u hu => (by cases hu), fun k hk => hk.elim⟩⟩
variable {P : Program} {f : FuncId}
theorem ok_str_strs {T : TypeId} {F : ByteArray → Option (List ByteArray)} (h : ∀ (a : ByteArray) (r : List ByteArray) (w : World), GK w → F a = some r → Calls P f #[.string a] w fun e w' => ∃ v, e = .returned v ∧ w'.ownsRow w.heap.size T 1 v r.length (r.map Value.string) ∧ Below w.heap.size w w') : CallsOk P f [.one (.sc .str)] [.one (.row T [.str])] F := by
  intro x r w vals hx hargs hgk
  simp only [PTIs, PKIs, LKIs, SKIs] at hargs
  obtain ⟨u, rfl, rfl⟩ := hargs
  refine (h x r w hgk hx).mono fun e w' hh => ?_
  obtain ⟨v, rfl, h1, h2⟩ := hh
  exact ⟨v, rfl, rets_strs h1, h2⟩
theorem ok_str_int {F : ByteArray × Int → Option (Int × Bool)} (h : ∀ (a : ByteArray) (n q : Int) (b : Bool) (w : World), GK w → F (a, n) = some (q, b) → Calls P f #[.string a, .int .i64 n] w fun e w' => e = .returned (.tuple #[.int .i64 q, .bool b]) ∧ Below w.heap.size w w') : CallsOk P f [.one (.sc .str), .one (.sc (.int .i64))] [.one (.sc (.int .i64)), .one (.sc .bool)] F := by
  intro x r w vals hx hargs hgk
  simp only [PTIs, PKIs, LKIs, SKIs] at hargs
  obtain ⟨u, us, rfl, rfl, u2, rfl, rfl⟩ := hargs
  refine (h x.1 x.2 r.1 r.2 w hgk hx).mono fun e w' hh => ?_
  exact ⟨_, hh.1, rets_int_bool r.1 r.2 w w', hh.2⟩
end Ex
end Go.Proofs.YthlhbnaloefncaaGreatDoor
