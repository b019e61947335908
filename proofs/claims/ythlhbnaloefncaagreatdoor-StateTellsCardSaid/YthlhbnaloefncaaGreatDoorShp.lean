/- The lift of a row that lists variables, first form or second: the witness at a world that is laid out, the contract with what the row tells (sizes, the listed variables, the shape of the variables). -/
import Derived.Test.YthlhbnaloefncaaGreatDoorRows
import Derived.Deep.DeepHandedRow
import Derived.WalkKit
import Derived.ProofKit
import Derived.LaidLaws
namespace Go.Proofs.YthlhbnaloefncaaGreatDoor.Ex
open Go Go.RowKit Go.ChangeShapes Go.WideShapes Go.ChangeAt
theorem lifted_row {H : Type} {enc : TypeId × Value → H} {C : Checked} {os : Os} {f : FuncId} {fn : Func} {s : OpenSpec} {F : Stop.Interp} {conds : List PathCond} {apart fresh handsOn again : Bool} {laid : List (String × DataW Unit)}
    (own : ownKnob C.prog.godebug = none) (started : os.Started) (noInit : C.prog.inits.idxOf? f = none) (hfn : C.prog.funcs[f]? = some fn) (w0 : World) (args : Array Value) (hos : w0.os = os)
    (hsh : (w0.forCall (fun _ _ => 0) ⟨#[], args, []⟩).Shaped C.prog)
    (hok : Input.okWideB C.prog (w0.forCall (fun _ _ => 0) ⟨#[], args, []⟩) f ⟨#[], args, []⟩ = true)
    (hrow : s.preRow enc C.prog fn conds apart laid (w0.forCall (fun _ _ => 0) ⟨#[], args, []⟩).memory args)
    (contract : ∀ (W : World) (base : Nat) (args : Array Value) (ds gs : List (DataW H)) (before : List MemPlace),
      (∀ (j : Nat) t v, fn.params[j]? = some t → args[j]? = some v → Value.okWide C.prog W .any base t v) →
      DataW.Whole enc C.prog fn.params.toList s.vars apart W args.toList ds gs before →
      (∀ k, s.cond = some k → k H (ds ++ gs) = true) →
      (DataW.weightsEach C.prog (fn.params.toList ++ s.bare.plain.varTypes C.prog) (ds ++ gs)).all (· ≤ reachBytes) = true →
      laidMetH C.prog laid W →
      W.ShapedOpen C.prog →
      Calls C.prog f args W fun e W' => ∃ v, e = .returned v ∧ (s.at F).post enc C.prog fn apart fresh handsOn again W args v W') :
    ReturnsInHanded {} C os f .any (s.preRow enc C.prog fn conds apart laid) ((s.at F).post enc C.prog fn apart fresh handsOn again) :=
  returnsInHanded_of_row own started noInit hfn
    ⟨w0, fun _ _ => 0, ⟨#[], args, []⟩, hos, hsh, (Input.okWide_of_okWideB (base := 0) hok).1, (Input.okWide_of_okWideB hok).2, hrow, by
      simp only [Assume.holds]
      exact ⟨by simp, by simp, fun _ => Modest.zero, by simp, by simp⟩⟩
    (fun W base args ds gs before hval hW _ hk hsz hl hs _ => contract W base args ds gs before hval hW hk hsz hl hs)
theorem sz_list (s : ByteArray) : s.data.toList.length = s.size := by rw [Array.length_toList]; rfl
end Go.Proofs.YthlhbnaloefncaaGreatDoor.Ex
