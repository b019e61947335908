/- A struct that came in by value: its cells, one by one. -/
import Derived.Test.YtndijkndllpkgaaDoorOpen
import Derived.WideShapes
namespace Go.Proofs.YtndijkndllpkgaaDoor.Open
open Go.RowKit Go.Proofs.YtndijkndllpkgaaDoorW.PrintWords Go.WideShapes
section
variable {P : Program}
def leafOk : TypeDesc → Value → Prop
  | .int k, v => ∃ n, v = .int k n ∧ (Lit.int k n).wf = true
  | .bool, v => ∃ b, v = .bool b
  | .string, v => ∃ s, v = .string s ∧ s.size ≤ 9223372036854775807
  | _, _ => False
def All2 : List TypeDesc → List Value → Prop
  | [], [] => True
  | d :: ds, v :: vs => leafOk d v ∧ All2 ds vs
  | _, _ => False
theorem All2.append : ∀ {a b : List TypeDesc} {xs ys : List Value}, All2 a xs → All2 b ys → All2 (a ++ b) (xs ++ ys)
  | [], _, [], _, _, h => h
  | [], _, _ :: _, _, h, _ => h.elim
  | _ :: _, _, [], _, h, _ => h.elim
  | _ :: _, _, _ :: _, _, h, h' => ⟨h.1, All2.append h.2 h'⟩
theorem all2_cons {d : TypeDesc} {ds : List TypeDesc} {l : List Value} (h : All2 (d :: ds) l) : ∃ v r, l = v :: r ∧ leafOk d v ∧ All2 ds r := by
  cases l with
  | nil => exact h.elim
  | cons v r => exact ⟨v, r, rfl, h.1, h.2⟩
theorem all2_nil {l : List Value} (h : All2 [] l) : l = [] := by
  cases l with
  | nil => rfl
  | cons v r => exact h.elim
/-- Whatever reads as data of type t has such cells. -/
def OL (P : Program) (t : TypeId) (ls : List TypeDesc) : Prop :=
  ∀ {H : Type} (enc : TypeId × Value → H) (W : World) (fuel : Nat) (cs : List Value) (x : DataW H × List MemPlace), DataW.trod enc P W 0 (fun _ => true) true fuel t cs = some x → All2 ls cs
theorem OL.int {t : TypeId} {k : IntKind} (ht : P.underlying t = some (.int k)) : OL P t [.int k] := by
  intro H enc W fuel cs x h
  obtain ⟨s, rfl, _, h3⟩ := DataW.trod_int ht h
  exact ⟨⟨s, rfl, h3⟩, trivial⟩
theorem OL.string {t : TypeId} (ht : P.underlying t = some .string) : OL P t [.string] := by
  intro H enc W fuel cs x h
  obtain ⟨s, rfl, _, h3⟩ := DataW.trod_string ht h
  exact ⟨⟨s, rfl, h3⟩, trivial⟩
def OLs (P : Program) : Nat → List Field → List (List TypeDesc) → Prop
  | _, [], [] => True
  | off, f :: r, l :: ls => f.offset = off ∧ P.cellsOf f.type = l.length ∧ OL P f.type l ∧ OLs P (off + l.length) r ls
  | _, _, _ => False
theorem seg {H : Type} {enc : TypeId × Value → H} {W : World} {n : Nat} (cs : List Value) : ∀ (fs : List Field) (lss : List (List TypeDesc)) (off : Nat), OLs P off fs lss →
    (∀ (i : Nat) (f : Field), fs[i]? = some f → ∃ y, DataW.trod enc P W 0 (fun _ => true) true n f.type ((cs.drop f.offset).take (P.cellsOf f.type)) = some y) → off + lss.flatten.length = cs.length → All2 lss.flatten (cs.drop off)
  | [], [], off, _, _, hl => by
    rw [List.drop_eq_nil_of_le (by simp at hl; omega)]
    exact trivial
  | [], _ :: _, _, h, _, _ => h.elim
  | _ :: _, [], _, h, _, _ => h.elim
  | f :: r, l :: ls, off, h, hf, hl => by
    obtain ⟨h1, h2, h3, h4⟩ := h
    obtain ⟨y, hy⟩ := hf 0 f rfl
    rw [h1, h2] at hy
    have a1 := h3 enc W n _ y hy
    have a2 := seg cs r ls (off + l.length) h4 (fun i g hg => hf (i + 1) g hg) (by simp only [List.flatten_cons, List.length_append] at hl; omega)
    have e : cs.drop off = (cs.drop off).take l.length ++ cs.drop (off + l.length) := by rw [← List.drop_drop, List.take_append_drop]
    rw [e, List.flatten_cons]
    exact All2.append a1 a2
theorem OL.struct {t : TypeId} {fs : Array Field} {lss : List (List TypeDesc)} (ht : P.underlying t = some (.struct fs)) (h : OLs P 0 fs.toList lss) (hC : P.cellsOf t = lss.flatten.length) : OL P t lss.flatten := by
  intro H enc W fuel cs x hx
  obtain ⟨xs, n, _, rfl, hl, hlen, hf⟩ := DataW.trod_struct ht hx
  have := seg (enc := enc) (W := W) (n := n) cs fs.toList lss 0 h (fun i f hi => by
    have hi' : fs[i]? = some f := by simpa using hi
    have h1 := hf i f hi'
    have hlt : i < xs.length := by rw [hlen]; exact (Array.getElem?_eq_some_iff.1 hi').1
    rw [List.getElem?_eq_getElem hlt] at h1
    exact ⟨_, h1⟩) (by rw [Nat.zero_add, ← hC, hl])
  simpa using this
theorem open_struct {H : Type} {enc : TypeId × Value → H} {W w : World} {r : Reach} {b0 : Nat} {t : TypeId} {fs : Array Field} {ls : List TypeDesc} {v : Value} {y : DataW H} {p : List MemPlace} (hs : P.underlying t = some (.struct fs)) (ho : OL P t ls)
    (hv : Value.okWide P w r b0 t v) (h : DataW.Trod enc P W 0 (fun _ => true) true t v y p) : ∃ l : List Value, v = .agg l.toArray ∧ All2 ls l := by
  obtain ⟨cs, rfl, _⟩ := okWide_struct hs hv
  obtain ⟨fuel, hf⟩ := h
  exact ⟨cs.toList, by simp, ho enc W fuel _ _ (by simpa [Value.cells] using hf)⟩
end
end Go.Proofs.YtndijkndllpkgaaDoor.Open
