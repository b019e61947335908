import Derived.Test.YtaknikdbnfmlfaaDoorExEE
import Derived.Test.YtaknikdbnfmlfaaDoorProg
namespace Go.Proofs.YtaknikdbnfmlfaaDoor.Ex
open Go
set_option linter.unusedVariables false
set_option maxHeartbeats 0
/-! felucca/direct.forms$4 -/
noncomputable def forms_4_c : Code := Tryd.f76.body.getD .skip
def forms_4 (k : Nat) : ((Nat × Nat)) → Option (List (Nat × Nat)) := fun (d) =>
  some ([(d.1, d.2 + 8 + 0), (d.1, d.2 + 8 + 1), (d.1, d.2 + 8 + 2)])
noncomputable def forms_4_X : Cx Tryd.prog [.one (.row 80 [.adr])] := ⟨fun k => ⟨[], [], []⟩, Tryd.f76.ntmps, Tryd.f76.results, []⟩
theorem forms_4_eq (k : Nat) (x : (Nat × Nat)) : forms_4 k x = runF forms_4_X k forms_4_c [.one (.sc .adr)] x := by kernel_rfl
noncomputable def forms_4_e (k : Nat) : Ent Tryd.prog := ⟨76, [.one (.sc .adr)], [.one (.row 80 [.adr])], forms_4 k, calls_of (X := forms_4_X) (k := k) (c := forms_4_c) Tryd.func76 (by kernel_rfl) (by kernel_rfl) (by kernel_rfl) (LoopEqs.all (show LoopEqs forms_4_X forms_4_c forms_4_X.L 0 from trivial)) (fun x => forms_4_eq k x), fun _ _ => by kernel_rfl⟩
/-! felucca/direct.forms$1 -/
noncomputable def forms_1_c : Code := Tryd.f73.body.getD .skip
def forms_1 (k : Nat) : ((Nat × Nat)) → Option (List (Nat × Nat)) := fun (d) =>
  some ([(d.1, d.2 + 2 + 0)])
noncomputable def forms_1_X : Cx Tryd.prog [.one (.row 80 [.adr])] := ⟨fun k => ⟨[], [], []⟩, Tryd.f73.ntmps, Tryd.f73.results, []⟩
theorem forms_1_eq (k : Nat) (x : (Nat × Nat)) : forms_1 k x = runF forms_1_X k forms_1_c [.one (.sc .adr)] x := by kernel_rfl
noncomputable def forms_1_e (k : Nat) : Ent Tryd.prog := ⟨73, [.one (.sc .adr)], [.one (.row 80 [.adr])], forms_1 k, calls_of (X := forms_1_X) (k := k) (c := forms_1_c) Tryd.func73 (by kernel_rfl) (by kernel_rfl) (by kernel_rfl) (LoopEqs.all (show LoopEqs forms_1_X forms_1_c forms_1_X.L 0 from trivial)) (fun x => forms_1_eq k x), fun _ _ => by kernel_rfl⟩
/-! felucca/direct.forms$2 -/
noncomputable def forms_2_c : Code := Tryd.f74.body.getD .skip
def forms_2 (k : Nat) : ((Nat × Nat)) → Option (List (Nat × Nat)) := fun (d) =>
  some ([(d.1, d.2 + 2 + 0), (d.1, d.2 + 2 + 5)])
noncomputable def forms_2_X : Cx Tryd.prog [.one (.row 80 [.adr])] := ⟨fun k => ⟨[], [], []⟩, Tryd.f74.ntmps, Tryd.f74.results, []⟩
theorem forms_2_eq (k : Nat) (x : (Nat × Nat)) : forms_2 k x = runF forms_2_X k forms_2_c [.one (.sc .adr)] x := by kernel_rfl
noncomputable def forms_2_e (k : Nat) : Ent Tryd.prog := ⟨74, [.one (.sc .adr)], [.one (.row 80 [.adr])], forms_2 k, calls_of (X := forms_2_X) (k := k) (c := forms_2_c) Tryd.func74 (by kernel_rfl) (by kernel_rfl) (by kernel_rfl) (LoopEqs.all (show LoopEqs forms_2_X forms_2_c forms_2_X.L 0 from trivial)) (fun x => forms_2_eq k x), fun _ _ => by kernel_rfl⟩
/-! felucca/direct.forms$3 -/
noncomputable def forms_3_c : Code := Tryd.f75.body.getD .skip
def forms_3 (k : Nat) : ((Nat × Nat)) → Option (List (Nat × Nat)) := fun (d) =>
  some ([(d.1, d.2 + 2 + 0), (d.1, d.2 + 2 + 1), (d.1, d.2 + 2 + 2), (d.1, d.2 + 2 + 3), (d.1, d.2 + 2 + 4), (d.1, d.2 + 2 + 5)])
noncomputable def forms_3_X : Cx Tryd.prog [.one (.row 80 [.adr])] := ⟨fun k => ⟨[], [], []⟩, Tryd.f75.ntmps, Tryd.f75.results, []⟩
theorem forms_3_eq (k : Nat) (x : (Nat × Nat)) : forms_3 k x = runF forms_3_X k forms_3_c [.one (.sc .adr)] x := by kernel_rfl
noncomputable def forms_3_e (k : Nat) : Ent Tryd.prog := ⟨75, [.one (.sc .adr)], [.one (.row 80 [.adr])], forms_3 k, calls_of (X := forms_3_X) (k := k) (c := forms_3_c) Tryd.func75 (by kernel_rfl) (by kernel_rfl) (by kernel_rfl) (LoopEqs.all (show LoopEqs forms_3_X forms_3_c forms_3_X.L 0 from trivial)) (fun x => forms_3_eq k x), fun _ _ => by kernel_rfl⟩
/-! felucca/direct.forms$5 -/
noncomputable def forms_5_c : Code := Tryd.f77.body.getD .skip
def forms_5 (k : Nat) : (((Nat × Nat)) × Unit) → Option (List (Nat × Nat)) := fun (d, t1) =>
  (forms_4 k d).bind fun o_1 =>
    bif decide ((List.length o_1 + List.length [(d.1, d.2 + 8 + 4)]) * 8 ≤ 140737488355328) then
      some (o_1 ++ [(d.1, d.2 + 8 + 4)])
    else
      none
noncomputable def forms_5_X : Cx Tryd.prog [.one (.row 80 [.adr])] := ⟨fun k => ⟨[forms_4_e k], [], []⟩, Tryd.f77.ntmps, Tryd.f77.results, []⟩
theorem forms_5_eq (k : Nat) (x : ((Nat × Nat)) × Unit) : forms_5 k x = runF forms_5_X k forms_5_c [.one (.sc .adr), .one (.ptr [.fnc 76])] x := by kernel_rfl
noncomputable def forms_5_e (k : Nat) : Ent Tryd.prog := ⟨77, [.one (.sc .adr), .one (.ptr [.fnc 76])], [.one (.row 80 [.adr])], forms_5 k, calls_of (X := forms_5_X) (k := k) (c := forms_5_c) Tryd.func77 (by kernel_rfl) (by kernel_rfl) (by kernel_rfl) (LoopEqs.all (show LoopEqs forms_5_X forms_5_c forms_5_X.L 0 from trivial)) (fun x => forms_5_eq k x), fun _ _ => by kernel_rfl⟩
/-! felucca/direct.forms$6 -/
noncomputable def forms_6_c : Code := Tryd.f78.body.getD .skip
def forms_6 (k : Nat) : (((Nat × Nat)) × Unit) → Option (List (Nat × Nat)) := fun (d, t1) =>
  (forms_4 k d).bind fun o_1 =>
    bif decide ((List.length o_1 + List.length [(d.1, d.2 + 8 + 3), (d.1, d.2 + 8 + 4)]) * 8 ≤ 140737488355328) then
      some (o_1 ++ [(d.1, d.2 + 8 + 3), (d.1, d.2 + 8 + 4)])
    else
      none
noncomputable def forms_6_X : Cx Tryd.prog [.one (.row 80 [.adr])] := ⟨fun k => ⟨[forms_4_e k], [], []⟩, Tryd.f78.ntmps, Tryd.f78.results, []⟩
theorem forms_6_eq (k : Nat) (x : ((Nat × Nat)) × Unit) : forms_6 k x = runF forms_6_X k forms_6_c [.one (.sc .adr), .one (.ptr [.fnc 76])] x := by kernel_rfl
noncomputable def forms_6_e (k : Nat) : Ent Tryd.prog := ⟨78, [.one (.sc .adr), .one (.ptr [.fnc 76])], [.one (.row 80 [.adr])], forms_6 k, calls_of (X := forms_6_X) (k := k) (c := forms_6_c) Tryd.func78 (by kernel_rfl) (by kernel_rfl) (by kernel_rfl) (LoopEqs.all (show LoopEqs forms_6_X forms_6_c forms_6_X.L 0 from trivial)) (fun x => forms_6_eq k x), fun _ _ => by kernel_rfl⟩
end Go.Proofs.YtaknikdbnfmlfaaDoor.Ex
