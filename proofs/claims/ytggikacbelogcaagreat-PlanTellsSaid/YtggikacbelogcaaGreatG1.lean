import Derived.Test.YtggikacbelogcaaGreatExFF
import Derived.Test.YtggikacbelogcaaGreatProg
namespace Go.Proofs.YtggikacbelogcaaGreat.Ex
open Go
set_option linter.unusedVariables false
set_option maxHeartbeats 0
/-! felucca/direct.forms$4 -/
noncomputable def forms_4_c : Code := Tryz.f104.body.getD .skip
def forms_4 (k : Nat) : ((Nat × Nat)) → Option (List (Nat × Nat)) := fun (d) =>
  some ([(d.1, d.2 + 8 + 0), (d.1, d.2 + 8 + 1), (d.1, d.2 + 8 + 2)])
noncomputable def forms_4_X : Cx Tryz.prog [.one (.row 94 [.adr])] := ⟨fun k => ⟨[], [], []⟩, Tryz.f104.ntmps, Tryz.f104.results, []⟩
theorem forms_4_eq (k : Nat) (x : (Nat × Nat)) : forms_4 k x = runF forms_4_X k forms_4_c [.one (.sc .adr)] x := by kernel_rfl
noncomputable def forms_4_e (k : Nat) : Ent Tryz.prog := ⟨104, [.one (.sc .adr)], [.one (.row 94 [.adr])], forms_4 k, calls_of (X := forms_4_X) (k := k) (c := forms_4_c) Tryz.func104 (by kernel_rfl) (by kernel_rfl) (by kernel_rfl) (LoopEqs.all (show LoopEqs forms_4_X forms_4_c forms_4_X.L 0 from trivial)) (fun x => forms_4_eq k x), fun _ _ => by kernel_rfl⟩
/-! felucca/direct.forms$1 -/
noncomputable def forms_1_c : Code := Tryz.f101.body.getD .skip
def forms_1 (k : Nat) : ((Nat × Nat)) → Option (List (Nat × Nat)) := fun (d) =>
  some ([(d.1, d.2 + 2 + 0)])
noncomputable def forms_1_X : Cx Tryz.prog [.one (.row 94 [.adr])] := ⟨fun k => ⟨[], [], []⟩, Tryz.f101.ntmps, Tryz.f101.results, []⟩
theorem forms_1_eq (k : Nat) (x : (Nat × Nat)) : forms_1 k x = runF forms_1_X k forms_1_c [.one (.sc .adr)] x := by kernel_rfl
noncomputable def forms_1_e (k : Nat) : Ent Tryz.prog := ⟨101, [.one (.sc .adr)], [.one (.row 94 [.adr])], forms_1 k, calls_of (X := forms_1_X) (k := k) (c := forms_1_c) Tryz.func101 (by kernel_rfl) (by kernel_rfl) (by kernel_rfl) (LoopEqs.all (show LoopEqs forms_1_X forms_1_c forms_1_X.L 0 from trivial)) (fun x => forms_1_eq k x), fun _ _ => by kernel_rfl⟩
/-! felucca/direct.forms$2 -/
noncomputable def forms_2_c : Code := Tryz.f102.body.getD .skip
def forms_2 (k : Nat) : ((Nat × Nat)) → Option (List (Nat × Nat)) := fun (d) =>
  some ([(d.1, d.2 + 2 + 0), (d.1, d.2 + 2 + 5)])
noncomputable def forms_2_X : Cx Tryz.prog [.one (.row 94 [.adr])] := ⟨fun k => ⟨[], [], []⟩, Tryz.f102.ntmps, Tryz.f102.results, []⟩
theorem forms_2_eq (k : Nat) (x : (Nat × Nat)) : forms_2 k x = runF forms_2_X k forms_2_c [.one (.sc .adr)] x := by kernel_rfl
noncomputable def forms_2_e (k : Nat) : Ent Tryz.prog := ⟨102, [.one (.sc .adr)], [.one (.row 94 [.adr])], forms_2 k, calls_of (X := forms_2_X) (k := k) (c := forms_2_c) Tryz.func102 (by kernel_rfl) (by kernel_rfl) (by kernel_rfl) (LoopEqs.all (show LoopEqs forms_2_X forms_2_c forms_2_X.L 0 from trivial)) (fun x => forms_2_eq k x), fun _ _ => by kernel_rfl⟩
/-! felucca/direct.forms$3 -/
noncomputable def forms_3_c : Code := Tryz.f103.body.getD .skip
def forms_3 (k : Nat) : ((Nat × Nat)) → Option (List (Nat × Nat)) := fun (d) =>
  some ([(d.1, d.2 + 2 + 0), (d.1, d.2 + 2 + 1), (d.1, d.2 + 2 + 2), (d.1, d.2 + 2 + 3), (d.1, d.2 + 2 + 4), (d.1, d.2 + 2 + 5)])
noncomputable def forms_3_X : Cx Tryz.prog [.one (.row 94 [.adr])] := ⟨fun k => ⟨[], [], []⟩, Tryz.f103.ntmps, Tryz.f103.results, []⟩
theorem forms_3_eq (k : Nat) (x : (Nat × Nat)) : forms_3 k x = runF forms_3_X k forms_3_c [.one (.sc .adr)] x := by kernel_rfl
noncomputable def forms_3_e (k : Nat) : Ent Tryz.prog := ⟨103, [.one (.sc .adr)], [.one (.row 94 [.adr])], forms_3 k, calls_of (X := forms_3_X) (k := k) (c := forms_3_c) Tryz.func103 (by kernel_rfl) (by kernel_rfl) (by kernel_rfl) (LoopEqs.all (show LoopEqs forms_3_X forms_3_c forms_3_X.L 0 from trivial)) (fun x => forms_3_eq k x), fun _ _ => by kernel_rfl⟩
/-! felucca/direct.forms$5 -/
noncomputable def forms_5_c : Code := Tryz.f105.body.getD .skip
def forms_5 (k : Nat) : (((Nat × Nat)) × Unit) → Option (List (Nat × Nat)) := fun (d, t1) =>
  (forms_4 k d).bind fun o_1 =>
    bif decide ((List.length o_1 + List.length [(d.1, d.2 + 8 + 4)]) * 8 ≤ 140737488355328) then
      some (o_1 ++ [(d.1, d.2 + 8 + 4)])
    else
      none
noncomputable def forms_5_X : Cx Tryz.prog [.one (.row 94 [.adr])] := ⟨fun k => ⟨[forms_4_e k], [], []⟩, Tryz.f105.ntmps, Tryz.f105.results, []⟩
theorem forms_5_eq (k : Nat) (x : ((Nat × Nat)) × Unit) : forms_5 k x = runF forms_5_X k forms_5_c [.one (.sc .adr), .one (.ptr [.fnc 104])] x := by kernel_rfl
noncomputable def forms_5_e (k : Nat) : Ent Tryz.prog := ⟨105, [.one (.sc .adr), .one (.ptr [.fnc 104])], [.one (.row 94 [.adr])], forms_5 k, calls_of (X := forms_5_X) (k := k) (c := forms_5_c) Tryz.func105 (by kernel_rfl) (by kernel_rfl) (by kernel_rfl) (LoopEqs.all (show LoopEqs forms_5_X forms_5_c forms_5_X.L 0 from trivial)) (fun x => forms_5_eq k x), fun _ _ => by kernel_rfl⟩
/-! felucca/direct.forms$6 -/
noncomputable def forms_6_c : Code := Tryz.f106.body.getD .skip
def forms_6 (k : Nat) : (((Nat × Nat)) × Unit) → Option (List (Nat × Nat)) := fun (d, t1) =>
  (forms_4 k d).bind fun o_1 =>
    bif decide ((List.length o_1 + List.length [(d.1, d.2 + 8 + 3), (d.1, d.2 + 8 + 4)]) * 8 ≤ 140737488355328) then
      some (o_1 ++ [(d.1, d.2 + 8 + 3), (d.1, d.2 + 8 + 4)])
    else
      none
noncomputable def forms_6_X : Cx Tryz.prog [.one (.row 94 [.adr])] := ⟨fun k => ⟨[forms_4_e k], [], []⟩, Tryz.f106.ntmps, Tryz.f106.results, []⟩
theorem forms_6_eq (k : Nat) (x : ((Nat × Nat)) × Unit) : forms_6 k x = runF forms_6_X k forms_6_c [.one (.sc .adr), .one (.ptr [.fnc 104])] x := by kernel_rfl
noncomputable def forms_6_e (k : Nat) : Ent Tryz.prog := ⟨106, [.one (.sc .adr), .one (.ptr [.fnc 104])], [.one (.row 94 [.adr])], forms_6 k, calls_of (X := forms_6_X) (k := k) (c := forms_6_c) Tryz.func106 (by kernel_rfl) (by kernel_rfl) (by kernel_rfl) (LoopEqs.all (show LoopEqs forms_6_X forms_6_c forms_6_X.L 0 from trivial)) (fun x => forms_6_eq k x), fun _ _ => by kernel_rfl⟩
end Go.Proofs.YtggikacbelogcaaGreat.Ex
