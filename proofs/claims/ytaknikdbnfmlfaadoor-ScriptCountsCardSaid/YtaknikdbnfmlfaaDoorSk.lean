/- What comes in as bytes, or as an array of ten bytes. -/
import Derived.Test.YtaknikdbnfmlfaaDoorSc
import Derived.Test.YtaknikdbnfmlfaaDoorExOp
namespace Go.Proofs.YtaknikdbnfmlfaaDoor.Ex
open Go Go.RowKit Go.WideShapes
set_option linter.unusedVariables false
theorem b8_of {n : Int} (h : SK.okv (.int .u8) n) : B8 n := by
  have g : (Lit.int .u8 n).wf = true := h
  simpa [Lit.wf, IntKind.min, IntKind.max, IntKind.signed, IntKind.bits] using g
theorem BL_of {l : List Int} (h : SK.okv (.row [.int .u8]) l) : BL l := fun n hn => by
  have h2 := h.2 n hn
  simp only [okvT] at h2
  exact b8_of h2
theorem X8_of {x : T39} (h : okvT s10 x) : X8 x := by
  simp only [okvT] at h
  obtain ⟨h0, h1, h2, h3, h4, h5, h6, h7, h8, h9⟩ := h
  exact ⟨b8_of h0, b8_of h1, b8_of h2, b8_of h3, b8_of h4, b8_of h5, b8_of h6, b8_of h7, b8_of h8, b8_of h9⟩
section
variable {P : Program}
theorem tup_one {W : World} {n : Nat} {H : Type} {enc : TypeId × Value → H} {e : TypeId} (he : P.underlying e = some (.int .u8)) : ∀ (m : Nat) (cs : List Value), cs.length = m → (∀ i, i < m → ∃ y, DataW.trod enc P W 0 (fun _ => true) true n e ((cs.drop i).take 1) = some y) →
    ∃ y : Tup (List.replicate m (SK.int .u8)), TupIs (fun b => b < W.heap.size) W (List.replicate m (SK.int .u8)) y cs ∧ okvT (List.replicate m (SK.int .u8)) y
  | 0, cs, hl, _ => by
    have : cs = [] := List.length_eq_zero_iff.1 hl
    subst this
    exact ⟨(), by simp [TupIs], by simp [okvT]⟩
  | m + 1, cs, hl, h => by
    obtain ⟨y, hy⟩ := h 0 (by omega)
    have a1 := OpK.t (OpK.int he) enc W n _ y hy
    have a2 := tup_one he m (cs.drop 1) (by rw [List.length_drop]; omega) (fun i hi => by
      obtain ⟨z, hz⟩ := h (i + 1) (by omega)
      exact ⟨z, by rw [List.drop_drop, show 1 + i = i + 1 by omega]; exact hz⟩)
    have e1 : cs = (cs.drop 0).take 1 ++ cs.drop 1 := by rw [List.drop_zero, List.take_append_drop]
    have := tup_app (ok := fun b => b < W.heap.size) (W := W) (a := [SK.int .u8]) (b := List.replicate m (SK.int .u8)) a1 a2
    rw [← e1] at this
    exact this
theorem OpT.arr {t e : TypeId} {n : Nat} (ht : P.underlying t = some (.array n e)) (he : P.underlying e = some (.int .u8)) (hc : P.cellsOf e = 1) (hC : P.cellsOf t = n) : OpT P t (List.replicate n (SK.int .u8)) := by
  intro H enc W fuel cs x hx
  obtain ⟨xs, m, _, rfl, hl, hlen, hf⟩ := DataW.trod_array ht hx
  refine tup_one (enc := enc) (n := m) he n cs (by rw [hl, hC]) (fun i hi => ?_)
  have h1 := hf i hi
  rw [hc, Nat.mul_one, List.getElem?_eq_getElem (by omega)] at h1
  exact ⟨_, h1⟩
/-- An array that came in. -/
theorem open_arr {H : Type} {enc : TypeId × Value → H} {W w : World} {r : Reach} {b0 : Nat} {t e : TypeId} {n : Nat} {s : List SK} {v : Value} {y : DataW H} {p : List MemPlace} (hs : P.underlying t = some (.array n e)) (ho : OpT P t s)
    (hv : Value.okWide P w r b0 t v) (h : DataW.Trod enc P W 0 (fun _ => true) true t v y p) : ∃ (a : Tup s) (vs : List Value), v = .agg vs.toArray ∧ TupIs (fun b => b < W.heap.size) W s a vs ∧ okvT s a := by
  have h0 : ∃ cs, v = .agg cs := by
    simp only [Value.okWide, hs] at hv
    obtain ⟨cs, h1, _⟩ := hv
    exact ⟨cs, h1⟩
  obtain ⟨cs, rfl⟩ := h0
  obtain ⟨fuel, hf⟩ := h
  obtain ⟨a, h1, h2⟩ := ho enc W fuel cs.toList _ (by simpa [Value.cells] using hf)
  exact ⟨a, cs.toList, by simp, h1, h2⟩
end
end Go.Proofs.YtaknikdbnfmlfaaDoor.Ex
