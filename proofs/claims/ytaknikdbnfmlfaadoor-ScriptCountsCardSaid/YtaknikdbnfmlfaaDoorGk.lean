/- What is known of the world from the beginning on, at a Door seat: the table of the powers of ten and how long a text may be that is looked for; and objects that are told by hand: 0 a strings.Builder, 1 what ranges over the looks of direct.forms (how many are left, which were seen, the last one first), 2 the map of looks. Lay it as <Name>Gk (fill.sh lays <Name>Gk: copy). -/
import Derived.Test.YtaknikdbnfmlfaaDoorTab
import Derived.Test.YtaknikdbnfmlfaaDoorMax
import Derived.Lib.Builder
import Derived.Lib.AppendStr
import Derived.Maps.RangeRun
namespace Go.Proofs.YtaknikdbnfmlfaaDoor.Ex
open Go Go.RowKit
def GK (w : World) : Prop := Pr.TabP w ∧ Pr.MaxP w
theorem GK.below {w w' : World} (h : GK w) (hb : Below w.heap.size w w') : GK w' := ⟨h.1.below hb, h.2.below hb⟩
def kyG (p : Int × Int) : Value := .agg #[.int .i64 p.1, .int .i64 p.2]
def fnG (f : FuncId) : Value := .func (.func f) #[] #[]
def fcG (f : FuncId) (H : Nat) : Value := .func (.func f) #[] #[.pointer (some ⟨H, 0, none⟩)]
def lkG (H : Nat) : Int × Int → Value
  | (1, 1) => .agg #[.string ⟨#[97]⟩, .string ⟨#[99, 111, 110, 116, 97, 99, 116]⟩, fnG 75]
  | (2, 1) => .agg #[.string ⟨#[100]⟩, .string ⟨#[99, 111, 110, 116, 97, 99, 116]⟩, fnG 73]
  | (3, 1) => .agg #[.string ⟨#[99]⟩, .string ⟨#[99, 111, 110, 116, 97, 99, 116]⟩, fnG 74]
  | (1, 2) => .agg #[.string ⟨#[97]⟩, .string ⟨#[114, 97, 110, 103, 101]⟩, fcG 78 H]
  | (2, 2) => .agg #[.string ⟨#[100]⟩, .string ⟨#[114, 97, 110, 103, 101]⟩, fnG 76]
  | (3, 2) => .agg #[.string ⟨#[99]⟩, .string ⟨#[114, 97, 110, 103, 101]⟩, fcG 77 H]
  | _ => undef
def fKsG : List (Int × Int) := [(1, 1), (2, 1), (3, 1), (1, 2), (2, 2), (3, 2)]
/-- The map of looks, and the cell that its function values read. -/
structure FMap (w : World) (b H : Nat) (es : Array MapEntry) (l : List (Int × Int)) : Prop where
  box : w.heap[H]? = some (.cells #[fnG 76] 71 (0, 0))
  mp : w.heap[b]? = some (.map es l.length)
  born : es.toList.map (·.born) = List.range l.length
  kv : es.toList.map (fun e => (e.key, e.val)) = l.map fun p => (kyG p, lkG H p)
  nd : l.Nodup
  mem : ∀ p, p ∈ l ↔ p ∈ fKsG
theorem FMap.move {w w' : World} {b H : Nat} {es : Array MapEntry} {l : List (Int × Int)} (h : FMap w b H es l) (h1 : w'.heap[b]? = w.heap[b]?) (h2 : w'.heap[H]? = w.heap[H]?) : FMap w' b H es l := ⟨h2.trans h.box, h1.trans h.mp, h.born, h.kv, h.nd, h.mem⟩
def FIter (w : World) (b bm H n : Nat) (vis : List (Int × Int)) (es : Array MapEntry) (l : List (Int × Int)) : Prop := ∃ seen : Array Nat, w.heap[b]? = some (.mapIter (some bm) l.length seen l.length) ∧ (leftOf es seen).size = n ∧ (∀ e ∈ es.toList, seen.contains e.born = true → ∃ p ∈ vis, e.key = kyG p) ∧
    ∀ p r, vis = p :: r → ∃ (seen' : Array Nat) (e : MapEntry), seen = seen'.push e.born ∧ e ∈ es.toList ∧ e.key = kyG p ∧ e.val = lkG H p
def OT : Nat → Type
  | 0 => ByteArray
  | 1 => Nat × List (Int × Int)
  | 2 => Unit
  | _ => Empty
abbrev bytesV := Lib.strCells
def OIs : (n : Nat) → OT n → Nat → Nat → (Nat → Prop) → (Nat → Prop) → World → Prop
  | 0 => fun s B b fp _ w => B ≤ b ∧ fp b ∧ ∃ p v, (p = .pointer none ∨ p = .pointer (some ⟨b, 0, none⟩)) ∧ w.heap[b]? = some (.cells #[p, v] 99 (0, 0)) ∧ w.ownsRow B 5 1 v (bytesV s).length (bytesV s) ∧ v.ownBlock ≠ some b ∧ ∀ k, v.ownBlock = some k → fp k
  | 1 => fun x B b fp F w => fp b ∧ ∃ bm H es l, F bm ∧ F H ∧ B ≤ H ∧ FMap w bm H es l ∧ FIter w b bm H x.1 x.2 es l
  | 2 => fun _ B b _ F w => ∃ H es l, F b ∧ F H ∧ B ≤ H ∧ FMap w b H es l
  | _ + 3 => fun x _ _ _ _ _ => nomatch x
theorem OIs_move {n : Nat} {x : OT n} {B b : Nat} {fp F F' : Nat → Prop} {w w' : World} (h : OIs n x B b fp F w) (h1 : ∀ k, fp k → w'.heap[k]? = w.heap[k]?) (h2 : ∀ k, F k → F' k ∧ w'.heap[k]? = w.heap[k]?) : OIs n x B b fp F' w' := by
  match n, x, h with
  | 0, s, h =>
    obtain ⟨hB, hf, p, v, hp, hb, ho, hne, hv⟩ := h
    refine ⟨hB, hf, p, v, hp, (h1 b hf).trans hb, ⟨ho.1, ?_⟩, hne, hv⟩
    rcases ho.2 with h3 | ⟨g, cap, cur, rfl, hg, hh, r⟩
    · exact .inl h3
    · exact .inr ⟨g, cap, cur, rfl, hg, (h1 g (hv g (by simp [Value.ownBlock]))).trans hh, r⟩
  | 1, x, h =>
    obtain ⟨hf, bm, H, es, l, hb, hH, hB, hm, seen, g1, g2⟩ := h
    exact ⟨hf, bm, H, es, l, (h2 _ hb).1, (h2 _ hH).1, hB, hm.move (h2 _ hb).2 (h2 _ hH).2, seen, (h1 _ hf).trans g1, g2⟩
  | 2, x, h =>
    obtain ⟨H, es, l, hb, hH, hB, hm⟩ := h
    exact ⟨H, es, l, (h2 _ hb).1, (h2 _ hH).1, hB, hm.move (h2 _ hb).2 (h2 _ hH).2⟩
  | n + 3, x, _ => exact nomatch x
end Go.Proofs.YtaknikdbnfmlfaaDoor.Ex
