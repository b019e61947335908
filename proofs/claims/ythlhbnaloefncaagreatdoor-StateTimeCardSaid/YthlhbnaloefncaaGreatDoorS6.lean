/- Part 6 of what the statements' rows lean on: the executor, the functions' trees, and what they come to in plain words. -/
import Derived.Test.YthlhbnaloefncaaGreatDoorS5
import Derived.Test.YthlhbnaloefncaaGreatDoorProg
namespace Go.Proofs.YthlhbnaloefncaaGreatDoor.Ex
open Go
set_option linter.unusedVariables false
set_option maxHeartbeats 0
abbrev GState := (List GContact) × (List GRange) × Int × Int × List GBooked
abbrev lGState : List LK := [.row 34 kGContact, .row 36 kGRange, .sc (.int .i64), .sc (.int .i64), .row 50 kGBooked]
abbrev toGState : List TL := [.own 34 kGContact, .own 36 kGRange, .sc (.int .i64), .sc (.int .i64), .own 50 kGBooked]
abbrev trGState : List TL := [.ro kGContact, .ro kGRange, .sc (.int .i64), .sc (.int .i64), .ro kGBooked]
abbrev kGState : List SK := [.row kGContact, .row kGRange, .int .i64, .int .i64, .row kGBooked]
noncomputable def state_New_c : Code := Tryz.f33.body.getD .skip
def state_New (k : Nat) : Unit → Option (GState) := fun _ =>
  (plan_New k ()).bind fun o_1 =>
    some ((o_1.1, o_1.2.1, o_1.2.2.1, o_1.2.2.2, []))
noncomputable def state_New_X : Cx Tryz.prog [.agg lGState] := ⟨fun k => ⟨[plan_New_e k], [], [hkStr Tryz.prog]⟩, Tryz.f33.ntmps, Tryz.f33.results, []⟩
theorem state_New_eq (k : Nat) (x : Unit) : state_New k x = runF state_New_X k state_New_c [] x := by kernel_rfl
noncomputable def state_New_e (k : Nat) : Ent Tryz.prog := ⟨33, [], [.agg lGState], state_New k, calls_of (X := state_New_X) (k := k) (c := state_New_c) Tryz.func33 (by kernel_rfl) (by kernel_rfl) (by kernel_rfl) (LoopEqs.all (show LoopEqs state_New_X state_New_c state_New_X.L 0 from trivial)) (fun x => state_New_eq k x), fun _ _ => by kernel_rfl⟩
noncomputable def state_copied_c : Code := Tryz.f64.body.getD .skip
def state_copied (k : Nat) : GState → Option (GState) := fun (s) =>
  (plan_Copy k (s.1, s.2.1, s.2.2.1, s.2.2.2.1)).bind fun o_1 =>
    (ledger_Drop k (s.2.2.2.2, [])).bind fun o_2 =>
      some ((o_1.1, o_1.2.1, o_1.2.2.1, o_1.2.2.2, o_2))
noncomputable def state_copied_X : Cx Tryz.prog [.agg lGState] := ⟨fun k => ⟨[ledger_Drop_e k, plan_Copy_e k], [], [hkStr Tryz.prog]⟩, Tryz.f64.ntmps, Tryz.f64.results, []⟩
theorem state_copied_eq (k : Nat) (x : GState) : state_copied k x = runF state_copied_X k state_copied_c [.agg lGState] x := by kernel_rfl
noncomputable def state_copied_e (k : Nat) : Ent Tryz.prog := ⟨64, [.agg lGState], [.agg lGState], state_copied k, calls_of (X := state_copied_X) (k := k) (c := state_copied_c) Tryz.func64 (by kernel_rfl) (by kernel_rfl) (by kernel_rfl) (LoopEqs.all (show LoopEqs state_copied_X state_copied_c state_copied_X.L 0 from trivial)) (fun x => state_copied_eq k x), fun _ _ => by kernel_rfl⟩
noncomputable def slices_Max_int_int_c : Code := Tryz.f81.body.getD .skip
def slices_Max_int_int_L0 : Nat → ((List Int) × Int × Int) → Option ((Int) ⊕ (Int))
  | 0, _ => none
  | k + 1, (x0, m, i) =>
  bif decide (i < Int.ofNat (List.length x0)) then
    bif decide (0 ≤ i) then
      bif decide (i < Int.ofNat (List.length x0)) then
        slices_Max_int_int_L0 k (x0, mx m (List.getD x0 (Int.toNat i) 0), w64 (i + 1))
      else
        none
    else
      none
  else
    some (Sum.inl m)
def slices_Max_int_int (k : Nat) : (List Int) → Option (Int) := fun (x0) =>
  bif decide (Int.ofNat (List.length x0) < 1) then
    none
  else
    bif decide (0 < Int.ofNat (List.length x0)) then
      (slices_Max_int_int_L0 k (x0, List.getD x0 (Int.toNat 0) 0, 1)).bind fun o_3 =>
        match o_3 with
        | .inl o_4 =>
          some (o_4)
        | .inr o_4 =>
          some (o_4)
    else
      none
noncomputable def slices_Max_int_int_X : Cx Tryz.prog [.one (.sc (.int .i64))] := ⟨fun k => ⟨[], [], [hkStr Tryz.prog]⟩, Tryz.f81.ntmps, Tryz.f81.results, [some ⟨0, [(0, .one (.ro [.int .i64])), (3, .one (.sc (.int .i64))), (4, .one (.sc (.int .i64)))], [(3, .one (.sc (.int .i64)))], slices_Max_int_int_L0⟩]⟩
theorem slices_Max_int_int_L0_eq (k : Nat) (x : (List Int) × Int × Int) : slices_Max_int_int_L0 (k + 1) x = roundF slices_Max_int_int_X k ⟨0, [(0, .one (.ro [.int .i64])), (3, .one (.sc (.int .i64))), (4, .one (.sc (.int .i64)))], [(3, .one (.sc (.int .i64)))], slices_Max_int_int_L0⟩ 0 (lp slices_Max_int_int_c 0) x := by kernel_rfl
theorem slices_Max_int_int_eq (k : Nat) (x : List Int) : slices_Max_int_int k x = runF slices_Max_int_int_X k slices_Max_int_int_c [.one (.row 3 [.int .i64])] x := by kernel_rfl
noncomputable def slices_Max_int_int_e (k : Nat) : Ent Tryz.prog := ⟨81, [.one (.row 3 [.int .i64])], [.one (.sc (.int .i64))], slices_Max_int_int k, calls_of (X := slices_Max_int_int_X) (k := k) (c := slices_Max_int_int_c) Tryz.func81 (by kernel_rfl) (by kernel_rfl) (by kernel_rfl) (LoopEqs.all (show LoopEqs slices_Max_int_int_X slices_Max_int_int_c slices_Max_int_int_X.L 0 from ⟨⟨fun _ => rfl, fun k x => slices_Max_int_int_L0_eq k x⟩, trivial⟩)) (fun x => slices_Max_int_int_eq k x), fun _ _ => by kernel_rfl⟩
noncomputable def state_over_c : Code := Tryz.f39.body.getD .skip
def state_over (k : Nat) : ((List GBooked) × GContact) → Option (Bool) := fun (l, c1) =>
  (ledger_Used k (l, c1.1)).bind fun o_1 =>
    (slices_Max_int_int k [o_1.1, o_1.2.1, o_1.2.2]).bind fun o_2 =>
      (check_Volume k c1).bind fun o_3 =>
        bif decide (o_3 < o_2) then
          some (true)
        else
          some (false)
noncomputable def state_over_X : Cx Tryz.prog [.one (.sc (.bool))] := ⟨fun k => ⟨[ledger_Used_e k, check_Volume_e k, slices_Max_int_int_e k], [], [hkAcut Tryz.prog, hkStr Tryz.prog]⟩, Tryz.f39.ntmps, Tryz.f39.results, []⟩
theorem state_over_eq (k : Nat) (x : (List GBooked) × GContact) : state_over k x = runF state_over_X k state_over_c [.one (.row 50 kGBooked), .agg lGContact] x := by kernel_rfl
noncomputable def state_over_e (k : Nat) : Ent Tryz.prog := ⟨39, [.one (.row 50 kGBooked), .agg lGContact], [.one (.sc (.bool))], state_over k, calls_of (X := state_over_X) (k := k) (c := state_over_c) Tryz.func39 (by kernel_rfl) (by kernel_rfl) (by kernel_rfl) (LoopEqs.all (show LoopEqs state_over_X state_over_c state_over_X.L 0 from trivial)) (fun x => state_over_eq k x), fun _ _ => by kernel_rfl⟩
noncomputable def state_Right_1_c : Code := Tryz.f38.body.getD .skip
def state_Right_1 (k : Nat) : (GBooked × GState) → Option (Bool) := fun (b, t1) =>
  (contacts_Find k (t1.1, b.1)).bind fun o_1 =>
    bif o_1.2 then
      (state_over k (t1.2.2.2.2, o_1.1)).bind fun o_3 =>
        bif o_3 then
          some (true)
        else
          some (false)
    else
      some (true)
noncomputable def state_Right_1_X : Cx Tryz.prog [.one (.sc (.bool))] := ⟨fun k => ⟨[contacts_Find_e k, state_over_e k], [], [hkStr Tryz.prog]⟩, Tryz.f38.ntmps, Tryz.f38.results, []⟩
theorem state_Right_1_eq (k : Nat) (x : GBooked × GState) : state_Right_1 k x = runF state_Right_1_X k state_Right_1_c [.agg lGBooked, .one (.ptr [.row kGContact, .row kGRange, .int .i64, .int .i64, .row kGBooked])] x := by kernel_rfl
noncomputable def state_Right_1_e (k : Nat) : Ent Tryz.prog := ⟨38, [.agg lGBooked, .one (.ptr [.row kGContact, .row kGRange, .int .i64, .int .i64, .row kGBooked])], [.one (.sc (.bool))], state_Right_1 k, calls_of (X := state_Right_1_X) (k := k) (c := state_Right_1_c) Tryz.func38 (by kernel_rfl) (by kernel_rfl) (by kernel_rfl) (LoopEqs.all (show LoopEqs state_Right_1_X state_Right_1_c state_Right_1_X.L 0 from trivial)) (fun x => state_Right_1_eq k x), fun _ _ => by kernel_rfl⟩
noncomputable def IndexFuncB_sr_c : Code := Tryz.f82.body.getD .skip
def IndexFuncB_sr_L0 : Nat → ((List GBooked) × GState × Int × Int) → Option ((Unit) ⊕ (Int))
  | 0, _ => none
  | k + 1, (s, f, t7, t8) =>
  bif decide (t8 < t7) then
    bif decide (0 ≤ t8) then
      bif decide (t8 < Int.ofNat (List.length s)) then
        (state_Right_1 k (List.getD s (Int.toNat t8) (0, 0, 0, 0), f)).bind fun o_4 =>
          bif o_4 then
            some (Sum.inr t8)
          else
            IndexFuncB_sr_L0 k (s, f, t7, w64 (t8 + 1))
      else
        none
    else
      none
  else
    some (Sum.inl ())
def IndexFuncB_sr (k : Nat) : ((List GBooked) × GState) → Option (Int) := fun (s, f) =>
  (IndexFuncB_sr_L0 k (s, f, Int.ofNat (List.length s), 0)).bind fun o_1 =>
    match o_1 with
    | .inl o_2 =>
      some (-1)
    | .inr o_2 =>
      some (o_2)
noncomputable def IndexFuncB_sr_X : Cx Tryz.prog [.one (.sc (.int .i64))] := ⟨fun k => ⟨[state_Right_1_e k], [], [hkStr Tryz.prog]⟩, Tryz.f82.ntmps, Tryz.f82.results, [some ⟨0, [(0, .one (.ro kGBooked)), (1, .fnp 38 [[.row kGContact, .row kGRange, .int .i64, .int .i64, .row kGBooked]]), (7, .one (.sc (.int .i64))), (8, .one (.sc (.int .i64)))], [], IndexFuncB_sr_L0⟩]⟩
theorem IndexFuncB_sr_L0_eq (k : Nat) (x : (List GBooked) × GState × Int × Int) : IndexFuncB_sr_L0 (k + 1) x = roundF IndexFuncB_sr_X k ⟨0, [(0, .one (.ro kGBooked)), (1, .fnp 38 [[.row kGContact, .row kGRange, .int .i64, .int .i64, .row kGBooked]]), (7, .one (.sc (.int .i64))), (8, .one (.sc (.int .i64)))], [], IndexFuncB_sr_L0⟩ 0 (lp IndexFuncB_sr_c 0) x := by kernel_rfl
theorem IndexFuncB_sr_eq (k : Nat) (x : (List GBooked) × GState) : IndexFuncB_sr k x = runF IndexFuncB_sr_X k IndexFuncB_sr_c [.one (.row 50 kGBooked), .one (.fnc 38 [[.row kGContact, .row kGRange, .int .i64, .int .i64, .row kGBooked]])] x := by kernel_rfl
noncomputable def IndexFuncB_sr_e (k : Nat) : Ent Tryz.prog := ⟨82, [.one (.row 50 kGBooked), .one (.fnc 38 [[.row kGContact, .row kGRange, .int .i64, .int .i64, .row kGBooked]])], [.one (.sc (.int .i64))], IndexFuncB_sr k, calls_of (X := IndexFuncB_sr_X) (k := k) (c := IndexFuncB_sr_c) Tryz.func82 (by kernel_rfl) (by kernel_rfl) (by kernel_rfl) (LoopEqs.all (show LoopEqs IndexFuncB_sr_X IndexFuncB_sr_c IndexFuncB_sr_X.L 0 from ⟨⟨fun _ => rfl, fun k x => IndexFuncB_sr_L0_eq k x⟩, trivial⟩)) (fun x => IndexFuncB_sr_eq k x), fun _ _ => by kernel_rfl⟩
noncomputable def ContainsFuncB_sr_c : Code := Tryz.f40.body.getD .skip
def ContainsFuncB_sr (k : Nat) : ((List GBooked) × GState) → Option (Bool) := fun (s, f) =>
  (IndexFuncB_sr k (s, f)).bind fun o_1 =>
    bif decide (0 ≤ o_1) then
      some (true)
    else
      some (false)
noncomputable def ContainsFuncB_sr_X : Cx Tryz.prog [.one (.sc (.bool))] := ⟨fun k => ⟨[state_Right_1_e k, IndexFuncB_dr_e k, IndexFuncB_sr_e k], [], [hkStr Tryz.prog]⟩, Tryz.f40.ntmps, Tryz.f40.results, []⟩
theorem ContainsFuncB_sr_eq (k : Nat) (x : (List GBooked) × GState) : ContainsFuncB_sr k x = runF ContainsFuncB_sr_X k ContainsFuncB_sr_c [.one (.row 50 kGBooked), .one (.fnc 38 [[.row kGContact, .row kGRange, .int .i64, .int .i64, .row kGBooked]])] x := by kernel_rfl
noncomputable def ContainsFuncB_sr_e (k : Nat) : Ent Tryz.prog := ⟨40, [.one (.row 50 kGBooked), .one (.fnc 38 [[.row kGContact, .row kGRange, .int .i64, .int .i64, .row kGBooked]])], [.one (.sc (.bool))], ContainsFuncB_sr k, calls_of (X := ContainsFuncB_sr_X) (k := k) (c := ContainsFuncB_sr_c) Tryz.func40 (by kernel_rfl) (by kernel_rfl) (by kernel_rfl) (LoopEqs.all (show LoopEqs ContainsFuncB_sr_X ContainsFuncB_sr_c ContainsFuncB_sr_X.L 0 from trivial)) (fun x => ContainsFuncB_sr_eq k x), fun _ _ => by kernel_rfl⟩
noncomputable def state_Right_c : Code := Tryz.f12.body.getD .skip
def state_Right (k : Nat) : GState → Option (Bool) := fun (s) =>
  (plan_Right k (s.1, s.2.1, s.2.2.1, s.2.2.2.1)).bind fun o_1 =>
    bif o_1 then
      (ledger_Right k s.2.2.2.2).bind fun o_3 =>
        bif o_3 then
          (ContainsFuncB_sr k (s.2.2.2.2, s)).bind fun o_5 =>
            bif o_5 then
              some (false)
            else
              some (true)
        else
          some (false)
    else
      some (false)
noncomputable def state_Right_X : Cx Tryz.prog [.one (.sc (.bool))] := ⟨fun k => ⟨[plan_Right_e k, ledger_Right_e k, ContainsFuncB_sr_e k], [], [hkStr Tryz.prog]⟩, Tryz.f12.ntmps, Tryz.f12.results, []⟩
theorem state_Right_eq (k : Nat) (x : GState) : state_Right k x = runF state_Right_X k state_Right_c [.agg lGState] x := by kernel_rfl
noncomputable def state_Right_e (k : Nat) : Ent Tryz.prog := ⟨12, [.agg lGState], [.one (.sc (.bool))], state_Right k, calls_of (X := state_Right_X) (k := k) (c := state_Right_c) Tryz.func12 (by kernel_rfl) (by kernel_rfl) (by kernel_rfl) (LoopEqs.all (show LoopEqs state_Right_X state_Right_c state_Right_X.L 0 from trivial)) (fun x => state_Right_eq k x), fun _ _ => by kernel_rfl⟩
noncomputable def state_Edit_c : Code := Tryz.f27.body.getD .skip
def state_Edit (k : Nat) : (GState × GDirective) → Option (GState × Int) := fun (s, d) =>
  (plan_Apply k ((s.1, s.2.1, s.2.2.1, s.2.2.2.1), d)).bind fun o_1 =>
    bif !decide (o_1.2 = 0) then
      (state_copied k s).bind fun o_3 =>
        some ((o_3, o_1.2))
    else
      (ledger_Drop k (s.2.2.2.2, [])).bind fun o_3 =>
        bif d.1 == 2 && d.2.1 == 1 then
          (ledger_Drop k (s.2.2.2.2, [d.2.2.1])).bind fun o_5 =>
            some (((o_1.1.1, o_1.1.2.1, o_1.1.2.2.1, o_1.1.2.2.2, o_5), 0))
        else
          bif d.1 == 3 && d.2.1 == 1 then
            (contacts_Find k (o_1.1.1, d.2.2.1)).bind fun o_6 =>
              bif o_6.2 then
                (state_over k (s.2.2.2.2, o_6.1)).bind fun o_8 =>
                  bif o_8 then
                    (state_copied k s).bind fun o_10 =>
                      some ((o_10, 8))
                  else
                    some (((o_1.1.1, o_1.1.2.1, o_1.1.2.2.1, o_1.1.2.2.2, o_3), 0))
              else
                (state_over k (s.2.2.2.2, o_6.1)).bind fun o_8 =>
                  bif o_8 then
                    (state_copied k s).bind fun o_10 =>
                      some ((o_10, 8))
                  else
                    some (((o_1.1.1, o_1.1.2.1, o_1.1.2.2.1, o_1.1.2.2.2, o_3), 0))
          else
            some (((o_1.1.1, o_1.1.2.1, o_1.1.2.2.1, o_1.1.2.2.2, o_3), 0))
noncomputable def state_Edit_X : Cx Tryz.prog [.agg lGState, .one (.sc (.int .i64))] := ⟨fun k => ⟨[contacts_Find_e k, state_over_e k, state_copied_e k, plan_Apply_e k, ledger_Drop_e k], [], [hkStr Tryz.prog]⟩, Tryz.f27.ntmps, Tryz.f27.results, []⟩
theorem state_Edit_eq (k : Nat) (x : GState × GDirective) : state_Edit k x = runF state_Edit_X k state_Edit_c [.agg lGState, .agg lGDirective] x := by kernel_rfl
noncomputable def state_Edit_e (k : Nat) : Ent Tryz.prog := ⟨27, [.agg lGState, .agg lGDirective], [.agg lGState, .one (.sc (.int .i64))], state_Edit k, calls_of (X := state_Edit_X) (k := k) (c := state_Edit_c) Tryz.func27 (by kernel_rfl) (by kernel_rfl) (by kernel_rfl) (LoopEqs.all (show LoopEqs state_Edit_X state_Edit_c state_Edit_X.L 0 from trivial)) (fun x => state_Edit_eq k x), fun _ _ => by kernel_rfl⟩
noncomputable def state_Load_c : Code := Tryz.f24.body.getD .skip
def state_Load_L0 : Nat → (ByteArray × GState × GState × (Int × Int) × GState × (List GDirective) × Int × Int) → Option ((GState × (Int × Int) × GState) ⊕ (GState × (Int × Int)))
  | 0, _ => none
  | k + 1, (t, s, t4, t5, next, t25, t26, t27) =>
  bif decide (t27 < t26) then
    bif decide (0 ≤ t27) then
      bif decide (t27 < Int.ofNat (List.length t25)) then
        (state_Edit k (next, List.getD t25 (Int.toNat t27) (0, 0, 0, 0, 0, 0, 0, 0, 0, 0, 0, 0, 0))).bind fun o_4 =>
          bif !decide (o_4.2 = 0) then
            (state_copied k s).bind fun o_6 =>
              (text_Lines k t).bind fun o_7 =>
                bif decide (0 ≤ t27) then
                  bif decide (t27 < Int.ofNat (List.length o_7)) then
                    some (Sum.inr (o_6, List.getD o_7 (Int.toNat t27) 0, o_4.2))
                  else
                    none
                else
                  none
          else
            state_Load_L0 k (t, s, t4, t5, o_4.1, t25, t26, w64 (t27 + 1))
      else
        none
    else
      none
  else
    some (Sum.inl (t4, t5, next))
def state_Load (k : Nat) : (GState × ByteArray) → Option (GState × (Int × Int)) := fun (s, t) =>
  (text_Parse k t).bind fun o_1 =>
    bif !decide (o_1.2.2 = 0) then
      (state_copied k s).bind fun o_3 =>
        some ((o_3, o_1.2))
    else
      (state_copied k s).bind fun o_3 =>
        (state_Load_L0 k (t, s, ([], [], 0, 0, []), (0, 0), o_3, o_1.1, Int.ofNat (List.length o_1.1), 0)).bind fun o_4 =>
          match o_4 with
          | .inl o_5 =>
            some ((o_5.2.2, 0, 0))
          | .inr o_5 =>
            some (o_5)
noncomputable def state_Load_X : Cx Tryz.prog [.agg lGState, .agg [.sc (.int .i64), .sc (.int .i64)]] := ⟨fun k => ⟨[text_Parse_e k, text_Lines_e k, state_Edit_e k, state_copied_e k], [], [hkStr Tryz.prog]⟩, Tryz.f24.ntmps, Tryz.f24.results, [some ⟨0, [(1, .one (.sc (.str))), (2, .box 28 trGState), (4, .box 28 toGState), (5, .box 45 [.sc (.int .i64), .sc (.int .i64)]), (8, .box 28 toGState), (25, .one (.own 38 kGDirective)), (26, .one (.sc (.int .i64))), (27, .one (.sc (.int .i64)))], [(4, .box 28 toGState), (5, .box 45 [.sc (.int .i64), .sc (.int .i64)]), (8, .box 28 toGState)], state_Load_L0⟩]⟩
theorem state_Load_L0_eq (k : Nat) (x : ByteArray × GState × GState × (Int × Int) × GState × (List GDirective) × Int × Int) : state_Load_L0 (k + 1) x = roundF state_Load_X k ⟨0, [(1, .one (.sc (.str))), (2, .box 28 trGState), (4, .box 28 toGState), (5, .box 45 [.sc (.int .i64), .sc (.int .i64)]), (8, .box 28 toGState), (25, .one (.own 38 kGDirective)), (26, .one (.sc (.int .i64))), (27, .one (.sc (.int .i64)))], [(4, .box 28 toGState), (5, .box 45 [.sc (.int .i64), .sc (.int .i64)]), (8, .box 28 toGState)], state_Load_L0⟩ 0 (lp state_Load_c 0) x := by kernel_rfl
theorem state_Load_eq (k : Nat) (x : GState × ByteArray) : state_Load k x = runF state_Load_X k state_Load_c [.agg lGState, .one (.sc (.str))] x := by kernel_rfl
noncomputable def state_Load_e (k : Nat) : Ent Tryz.prog := ⟨24, [.agg lGState, .one (.sc (.str))], [.agg lGState, .agg [.sc (.int .i64), .sc (.int .i64)]], state_Load k, calls_of (X := state_Load_X) (k := k) (c := state_Load_c) Tryz.func24 (by kernel_rfl) (by kernel_rfl) (by kernel_rfl) (LoopEqs.all (show LoopEqs state_Load_X state_Load_c state_Load_X.L 0 from ⟨⟨fun _ => rfl, fun k x => state_Load_L0_eq k x⟩, trivial⟩)) (fun x => state_Load_eq k x), fun _ _ => by kernel_rfl⟩
noncomputable def state_Advance_c : Code := Tryz.f30.body.getD .skip
def state_Advance (k : Nat) : (GState × Int) → Option (GState × Int) := fun (s, now) =>
  (plan_Advance k ((s.1, s.2.1, s.2.2.1, s.2.2.2.1), now)).bind fun o_1 =>
    bif !decide (o_1.2.2 = 0) then
      (state_copied k s).bind fun o_3 =>
        some ((o_3, o_1.2.2))
    else
      (ledger_Drop k (s.2.2.2.2, o_1.2.1)).bind fun o_3 =>
        some (((o_1.1.1, o_1.1.2.1, o_1.1.2.2.1, o_1.1.2.2.2, o_3), 0))
noncomputable def state_Advance_X : Cx Tryz.prog [.agg lGState, .one (.sc (.int .i64))] := ⟨fun k => ⟨[state_copied_e k, ledger_Drop_e k, plan_Advance_e k], [], [hkStr Tryz.prog]⟩, Tryz.f30.ntmps, Tryz.f30.results, []⟩
theorem state_Advance_eq (k : Nat) (x : GState × Int) : state_Advance k x = runF state_Advance_X k state_Advance_c [.agg lGState, .one (.sc (.int .i64))] x := by kernel_rfl
noncomputable def state_Advance_e (k : Nat) : Ent Tryz.prog := ⟨30, [.agg lGState, .one (.sc (.int .i64))], [.agg lGState, .one (.sc (.int .i64))], state_Advance k, calls_of (X := state_Advance_X) (k := k) (c := state_Advance_c) Tryz.func30 (by kernel_rfl) (by kernel_rfl) (by kernel_rfl) (LoopEqs.all (show LoopEqs state_Advance_X state_Advance_c state_Advance_X.L 0 from trivial)) (fun x => state_Advance_eq k x), fun _ _ => by kernel_rfl⟩
noncomputable def state_asked_1_c : Code := Tryz.f97.body.getD .skip
def state_asked_1 (k : Nat) : (Int × GState) → Option (Bool) := fun (id, t1) =>
  (contacts_Find k (t1.1, id)).bind fun o_1 =>
    bif o_1.2 then
      some (false)
    else
      some (true)
noncomputable def state_asked_1_X : Cx Tryz.prog [.one (.sc (.bool))] := ⟨fun k => ⟨[contacts_Find_e k], [], [hkStr Tryz.prog]⟩, Tryz.f97.ntmps, Tryz.f97.results, []⟩
theorem state_asked_1_eq (k : Nat) (x : Int × GState) : state_asked_1 k x = runF state_asked_1_X k state_asked_1_c [.one (.sc (.int .i64)), .one (.ptr [.row kGContact, .row kGRange, .int .i64, .int .i64, .row kGBooked])] x := by kernel_rfl
noncomputable def state_asked_1_e (k : Nat) : Ent Tryz.prog := ⟨97, [.one (.sc (.int .i64)), .one (.ptr [.row kGContact, .row kGRange, .int .i64, .int .i64, .row kGBooked])], [.one (.sc (.bool))], state_asked_1 k, calls_of (X := state_asked_1_X) (k := k) (c := state_asked_1_c) Tryz.func97 (by kernel_rfl) (by kernel_rfl) (by kernel_rfl) (LoopEqs.all (show LoopEqs state_asked_1_X state_asked_1_c state_asked_1_X.L 0 from trivial)) (fun x => state_asked_1_eq k x), fun _ _ => by kernel_rfl⟩
noncomputable def IndexFuncI_as_c : Code := Tryz.f155.body.getD .skip
def IndexFuncI_as_L0 : Nat → ((List Int) × GState × Int × Int) → Option ((Unit) ⊕ (Int))
  | 0, _ => none
  | k + 1, (s, f, t7, t8) =>
  bif decide (t8 < t7) then
    bif decide (0 ≤ t8) then
      bif decide (t8 < Int.ofNat (List.length s)) then
        (state_asked_1 k (List.getD s (Int.toNat t8) 0, f)).bind fun o_4 =>
          bif o_4 then
            some (Sum.inr t8)
          else
            IndexFuncI_as_L0 k (s, f, t7, w64 (t8 + 1))
      else
        none
    else
      none
  else
    some (Sum.inl ())
def IndexFuncI_as (k : Nat) : ((List Int) × GState) → Option (Int) := fun (s, f) =>
  (IndexFuncI_as_L0 k (s, f, Int.ofNat (List.length s), 0)).bind fun o_1 =>
    match o_1 with
    | .inl o_2 =>
      some (-1)
    | .inr o_2 =>
      some (o_2)
noncomputable def IndexFuncI_as_X : Cx Tryz.prog [.one (.sc (.int .i64))] := ⟨fun k => ⟨[state_asked_1_e k], [], [hkStr Tryz.prog]⟩, Tryz.f155.ntmps, Tryz.f155.results, [some ⟨0, [(0, .one (.ro [.int .i64])), (1, .fnp 97 [[.row kGContact, .row kGRange, .int .i64, .int .i64, .row kGBooked]]), (7, .one (.sc (.int .i64))), (8, .one (.sc (.int .i64)))], [], IndexFuncI_as_L0⟩]⟩
theorem IndexFuncI_as_L0_eq (k : Nat) (x : (List Int) × GState × Int × Int) : IndexFuncI_as_L0 (k + 1) x = roundF IndexFuncI_as_X k ⟨0, [(0, .one (.ro [.int .i64])), (1, .fnp 97 [[.row kGContact, .row kGRange, .int .i64, .int .i64, .row kGBooked]]), (7, .one (.sc (.int .i64))), (8, .one (.sc (.int .i64)))], [], IndexFuncI_as_L0⟩ 0 (lp IndexFuncI_as_c 0) x := by kernel_rfl
theorem IndexFuncI_as_eq (k : Nat) (x : (List Int) × GState) : IndexFuncI_as k x = runF IndexFuncI_as_X k IndexFuncI_as_c [.one (.row 3 [.int .i64]), .one (.fnc 97 [[.row kGContact, .row kGRange, .int .i64, .int .i64, .row kGBooked]])] x := by kernel_rfl
noncomputable def IndexFuncI_as_e (k : Nat) : Ent Tryz.prog := ⟨155, [.one (.row 3 [.int .i64]), .one (.fnc 97 [[.row kGContact, .row kGRange, .int .i64, .int .i64, .row kGBooked]])], [.one (.sc (.int .i64))], IndexFuncI_as k, calls_of (X := IndexFuncI_as_X) (k := k) (c := IndexFuncI_as_c) Tryz.func155 (by kernel_rfl) (by kernel_rfl) (by kernel_rfl) (LoopEqs.all (show LoopEqs IndexFuncI_as_X IndexFuncI_as_c IndexFuncI_as_X.L 0 from ⟨⟨fun _ => rfl, fun k x => IndexFuncI_as_L0_eq k x⟩, trivial⟩)) (fun x => IndexFuncI_as_eq k x), fun _ _ => by kernel_rfl⟩
noncomputable def ContainsFuncI_as_c : Code := Tryz.f98.body.getD .skip
def ContainsFuncI_as (k : Nat) : ((List Int) × GState) → Option (Bool) := fun (s, f) =>
  (IndexFuncI_as k (s, f)).bind fun o_1 =>
    bif decide (0 ≤ o_1) then
      some (true)
    else
      some (false)
noncomputable def ContainsFuncI_as_X : Cx Tryz.prog [.one (.sc (.bool))] := ⟨fun k => ⟨[state_asked_1_e k, IndexFuncI_as_e k], [], [hkStr Tryz.prog]⟩, Tryz.f98.ntmps, Tryz.f98.results, []⟩
theorem ContainsFuncI_as_eq (k : Nat) (x : (List Int) × GState) : ContainsFuncI_as k x = runF ContainsFuncI_as_X k ContainsFuncI_as_c [.one (.row 3 [.int .i64]), .one (.fnc 97 [[.row kGContact, .row kGRange, .int .i64, .int .i64, .row kGBooked]])] x := by kernel_rfl
noncomputable def ContainsFuncI_as_e (k : Nat) : Ent Tryz.prog := ⟨98, [.one (.row 3 [.int .i64]), .one (.fnc 97 [[.row kGContact, .row kGRange, .int .i64, .int .i64, .row kGBooked]])], [.one (.sc (.bool))], ContainsFuncI_as k, calls_of (X := ContainsFuncI_as_X) (k := k) (c := ContainsFuncI_as_c) Tryz.func98 (by kernel_rfl) (by kernel_rfl) (by kernel_rfl) (LoopEqs.all (show LoopEqs ContainsFuncI_as_X ContainsFuncI_as_c ContainsFuncI_as_X.L 0 from trivial)) (fun x => ContainsFuncI_as_eq k x), fun _ _ => by kernel_rfl⟩
noncomputable def state_asked_c : Code := Tryz.f54.body.getD .skip
def state_asked_L0 : Nat → ((List Int) × Int × Int × GState × (List Int) × (List Int) × Int × Int) → Option (((List Int) × Int × Int × GState × (List Int)) ⊕ (Int))
  | 0, _ => none
  | k + 1, (ids, class2, size, s, had, t14, t15, t16) =>
  bif decide (t16 < t15) then
    bif decide (0 ≤ t16) then
      bif decide (t16 < Int.ofNat (List.length t14)) then
        state_asked_L0 k (ids, class2, size, s, putN (List.getD t14 (Int.toNat t16) 0) had, t14, t15, w64 (t16 + 1))
      else
        none
    else
      none
  else
    some (Sum.inl (ids, class2, size, s, had))
def state_asked (k : Nat) : (GState × (List Int) × Int × Int) → Option (Int) := fun (s, ids, class2, size) =>
  (state_asked_L0 k (ids, class2, size, s, [], ids, Int.ofNat (List.length ids), 0)).bind fun o_1 =>
    match o_1 with
    | .inl o_2 =>
      bif decide (Int.ofNat (List.length o_2.1) = 0) then
        some (1)
      else
        bif decide (Int.ofNat (List.length o_2.2.2.2.2) < Int.ofNat (List.length o_2.1)) then
          some (1)
        else
          bif decide (o_2.2.1 < 0) then
            some (1)
          else
            bif decide (3 ≤ o_2.2.1) then
              some (1)
            else
              bif decide (o_2.2.2.1 < 0) then
                some (1)
              else
                bif decide (1099511627775 < o_2.2.2.1) then
                  some (1)
                else
                  (ContainsFuncI_as k (o_2.1, o_2.2.2.2.1)).bind fun o_9 =>
                    bif o_9 then
                      some (6)
                    else
                      some (0)
    | .inr o_2 =>
      some (o_2)
noncomputable def state_asked_X : Cx Tryz.prog [.one (.sc (.int .i64))] := ⟨fun k => ⟨[ContainsFuncI_as_e k], [], [hkMlen Tryz.prog, hkStr Tryz.prog]⟩, Tryz.f54.ntmps, Tryz.f54.results, [some ⟨0, [(1, .one (.ro [.int .i64])), (2, .one (.sc (.int .i64))), (3, .one (.sc (.int .i64))), (4, .box 28 trGState), (9, .mset), (14, .one (.ro [.int .i64])), (15, .one (.sc (.int .i64))), (16, .one (.sc (.int .i64)))], [(1, .one (.ro [.int .i64])), (2, .one (.sc (.int .i64))), (3, .one (.sc (.int .i64))), (4, .box 28 trGState), (9, .mset)], state_asked_L0⟩]⟩
theorem state_asked_L0_eq (k : Nat) (x : (List Int) × Int × Int × GState × (List Int) × (List Int) × Int × Int) : state_asked_L0 (k + 1) x = roundF state_asked_X k ⟨0, [(1, .one (.ro [.int .i64])), (2, .one (.sc (.int .i64))), (3, .one (.sc (.int .i64))), (4, .box 28 trGState), (9, .mset), (14, .one (.ro [.int .i64])), (15, .one (.sc (.int .i64))), (16, .one (.sc (.int .i64)))], [(1, .one (.ro [.int .i64])), (2, .one (.sc (.int .i64))), (3, .one (.sc (.int .i64))), (4, .box 28 trGState), (9, .mset)], state_asked_L0⟩ 0 (lp state_asked_c 0) x := by kernel_rfl
theorem state_asked_eq (k : Nat) (x : GState × (List Int) × Int × Int) : state_asked k x = runF state_asked_X k state_asked_c [.agg lGState, .one (.row 3 [.int .i64]), .one (.sc (.int .i64)), .one (.sc (.int .i64))] x := by kernel_rfl
noncomputable def state_asked_e (k : Nat) : Ent Tryz.prog := ⟨54, [.agg lGState, .one (.row 3 [.int .i64]), .one (.sc (.int .i64)), .one (.sc (.int .i64))], [.one (.sc (.int .i64))], state_asked k, calls_of (X := state_asked_X) (k := k) (c := state_asked_c) Tryz.func54 (by kernel_rfl) (by kernel_rfl) (by kernel_rfl) (LoopEqs.all (show LoopEqs state_asked_X state_asked_c state_asked_X.L 0 from ⟨⟨fun _ => rfl, fun k x => state_asked_L0_eq k x⟩, trivial⟩)) (fun x => state_asked_eq k x), fun _ _ => by kernel_rfl⟩
noncomputable def state_Book_1_c : Code := Tryz.f55.body.getD .skip
def state_Book_1 (k : Nat) : ((List GBooked) × Int × GState × Int × Int) → Option ((List GBooked) × Bool) := fun (l, id, t2, t3, t4) =>
  (contacts_Find k (t2.1, id)).bind fun o_1 =>
    bif o_1.2 then
      (ledger_Book k (l, o_1.1, t3, t4)).bind fun o_3 =>
        bif o_3.2 then
          some ((o_3.1, true))
        else
          some ((o_3.1, false))
    else
      (ledger_Book k (l, o_1.1, t3, t4)).bind fun o_3 =>
        bif o_3.2 then
          some ((o_3.1, true))
        else
          some ((o_3.1, false))
noncomputable def state_Book_1_X : Cx Tryz.prog [.one (.row 50 kGBooked), .one (.sc (.bool))] := ⟨fun k => ⟨[contacts_Find_e k, ledger_Book_e k], [], [hkStr Tryz.prog]⟩, Tryz.f55.ntmps, Tryz.f55.results, []⟩
theorem state_Book_1_eq (k : Nat) (x : (List GBooked) × Int × GState × Int × Int) : state_Book_1 k x = runF state_Book_1_X k state_Book_1_c [.one (.row 50 kGBooked), .one (.sc (.int .i64)), .one (.ptr [.row kGContact, .row kGRange, .int .i64, .int .i64, .row kGBooked]), .one (.ptr [.int .i64]), .one (.ptr [.int .i64])] x := by kernel_rfl
noncomputable def state_Book_1_e (k : Nat) : Ent Tryz.prog := ⟨55, [.one (.row 50 kGBooked), .one (.sc (.int .i64)), .one (.ptr [.row kGContact, .row kGRange, .int .i64, .int .i64, .row kGBooked]), .one (.ptr [.int .i64]), .one (.ptr [.int .i64])], [.one (.row 50 kGBooked), .one (.sc (.bool))], state_Book_1 k, calls_of (X := state_Book_1_X) (k := k) (c := state_Book_1_c) Tryz.func55 (by kernel_rfl) (by kernel_rfl) (by kernel_rfl) (LoopEqs.all (show LoopEqs state_Book_1_X state_Book_1_c state_Book_1_X.L 0 from trivial)) (fun x => state_Book_1_eq k x), fun _ _ => by kernel_rfl⟩
noncomputable def state_Release_1_c : Code := Tryz.f61.body.getD .skip
def state_Release_1 (k : Nat) : ((List GBooked) × Int × Int × Int) → Option ((List GBooked) × Bool) := fun (l, id, t2, t3) =>
  (ledger_Release k (l, id, t2, t3)).bind fun o_1 =>
    bif o_1.2 then
      some ((o_1.1, true))
    else
      some ((o_1.1, false))
noncomputable def state_Release_1_X : Cx Tryz.prog [.one (.row 50 kGBooked), .one (.sc (.bool))] := ⟨fun k => ⟨[ledger_Release_e k], [], [hkStr Tryz.prog]⟩, Tryz.f61.ntmps, Tryz.f61.results, []⟩
theorem state_Release_1_eq (k : Nat) (x : (List GBooked) × Int × Int × Int) : state_Release_1 k x = runF state_Release_1_X k state_Release_1_c [.one (.row 50 kGBooked), .one (.sc (.int .i64)), .one (.ptr [.int .i64]), .one (.ptr [.int .i64])] x := by kernel_rfl
noncomputable def state_Release_1_e (k : Nat) : Ent Tryz.prog := ⟨61, [.one (.row 50 kGBooked), .one (.sc (.int .i64)), .one (.ptr [.int .i64]), .one (.ptr [.int .i64])], [.one (.row 50 kGBooked), .one (.sc (.bool))], state_Release_1 k, calls_of (X := state_Release_1_X) (k := k) (c := state_Release_1_c) Tryz.func61 (by kernel_rfl) (by kernel_rfl) (by kernel_rfl) (LoopEqs.all (show LoopEqs state_Release_1_X state_Release_1_c state_Release_1_X.L 0 from trivial)) (fun x => state_Release_1_eq k x), fun _ _ => by kernel_rfl⟩
noncomputable def state_each_bk_c : Code := Tryz.f53.body.getD .skip
def state_each_bk_L0 : Nat → ((GState × Int × Int) × GState × GState × GState × (List Int) × Int × Int) → Option ((GState × GState) ⊕ (GState × Int))
  | 0, _ => none
  | k + 1, (do3, s, t8, next, t21, t22, t23) =>
  bif decide (t23 < t22) then
    bif decide (0 ≤ t23) then
      bif decide (t23 < Int.ofNat (List.length t21)) then
        (state_Book_1 k (next.2.2.2.2, List.getD t21 (Int.toNat t23) 0, do3)).bind fun o_4 =>
          bif o_4.2 then
            state_each_bk_L0 k (do3, s, t8, (next.1, next.2.1, next.2.2.1, next.2.2.2.1, o_4.1), t21, t22, w64 (t23 + 1))
          else
            (state_copied k s).bind fun o_6 =>
              some (Sum.inr (o_6, 8))
      else
        none
    else
      none
  else
    some (Sum.inl (t8, next))
def state_each_bk (k : Nat) : (GState × (List Int) × Int × (GState × Int × Int)) → Option (GState × Int) := fun (s, ids, err, do3) =>
  (state_copied k s).bind fun o_1 =>
    bif !decide (err = 0) then
      some ((o_1, err))
    else
      (state_each_bk_L0 k (do3, s, ([], [], 0, 0, []), o_1, ids, Int.ofNat (List.length ids), 0)).bind fun o_3 =>
        match o_3 with
        | .inl o_4 =>
          some ((o_4.2, 0))
        | .inr o_4 =>
          some (o_4)
noncomputable def state_each_bk_X : Cx Tryz.prog [.agg lGState, .one (.sc (.int .i64))] := ⟨fun k => ⟨[state_Book_1_e k, state_copied_e k], [], [hkStr Tryz.prog]⟩, Tryz.f53.ntmps, Tryz.f53.results, [some ⟨0, [(3, .fnp 55 [[.row kGContact, .row kGRange, .int .i64, .int .i64, .row kGBooked], [.int .i64], [.int .i64]]), (4, .box 28 trGState), (8, .box 28 toGState), (10, .box 28 toGState), (21, .one (.ro [.int .i64])), (22, .one (.sc (.int .i64))), (23, .one (.sc (.int .i64)))], [(8, .box 28 toGState), (10, .box 28 toGState)], state_each_bk_L0⟩]⟩
theorem state_each_bk_L0_eq (k : Nat) (x : (GState × Int × Int) × GState × GState × GState × (List Int) × Int × Int) : state_each_bk_L0 (k + 1) x = roundF state_each_bk_X k ⟨0, [(3, .fnp 55 [[.row kGContact, .row kGRange, .int .i64, .int .i64, .row kGBooked], [.int .i64], [.int .i64]]), (4, .box 28 trGState), (8, .box 28 toGState), (10, .box 28 toGState), (21, .one (.ro [.int .i64])), (22, .one (.sc (.int .i64))), (23, .one (.sc (.int .i64)))], [(8, .box 28 toGState), (10, .box 28 toGState)], state_each_bk_L0⟩ 0 (lp state_each_bk_c 0) x := by kernel_rfl
theorem state_each_bk_eq (k : Nat) (x : GState × (List Int) × Int × (GState × Int × Int)) : state_each_bk k x = runF state_each_bk_X k state_each_bk_c [.agg lGState, .one (.row 3 [.int .i64]), .one (.sc (.int .i64)), .one (.fnc 55 [[.row kGContact, .row kGRange, .int .i64, .int .i64, .row kGBooked], [.int .i64], [.int .i64]])] x := by kernel_rfl
noncomputable def state_each_bk_e (k : Nat) : Ent Tryz.prog := ⟨53, [.agg lGState, .one (.row 3 [.int .i64]), .one (.sc (.int .i64)), .one (.fnc 55 [[.row kGContact, .row kGRange, .int .i64, .int .i64, .row kGBooked], [.int .i64], [.int .i64]])], [.agg lGState, .one (.sc (.int .i64))], state_each_bk k, calls_of (X := state_each_bk_X) (k := k) (c := state_each_bk_c) Tryz.func53 (by kernel_rfl) (by kernel_rfl) (by kernel_rfl) (LoopEqs.all (show LoopEqs state_each_bk_X state_each_bk_c state_each_bk_X.L 0 from ⟨⟨fun _ => rfl, fun k x => state_each_bk_L0_eq k x⟩, trivial⟩)) (fun x => state_each_bk_eq k x), fun _ _ => by kernel_rfl⟩
noncomputable def state_each_rl_c : Code := Tryz.f53.body.getD .skip
def state_each_rl_L0 : Nat → ((Int × Int) × GState × GState × GState × (List Int) × Int × Int) → Option ((GState × GState) ⊕ (GState × Int))
  | 0, _ => none
  | k + 1, (do3, s, t8, next, t21, t22, t23) =>
  bif decide (t23 < t22) then
    bif decide (0 ≤ t23) then
      bif decide (t23 < Int.ofNat (List.length t21)) then
        (state_Release_1 k (next.2.2.2.2, List.getD t21 (Int.toNat t23) 0, do3)).bind fun o_4 =>
          bif o_4.2 then
            state_each_rl_L0 k (do3, s, t8, (next.1, next.2.1, next.2.2.1, next.2.2.2.1, o_4.1), t21, t22, w64 (t23 + 1))
          else
            (state_copied k s).bind fun o_6 =>
              some (Sum.inr (o_6, 8))
      else
        none
    else
      none
  else
    some (Sum.inl (t8, next))
def state_each_rl (k : Nat) : (GState × (List Int) × Int × (Int × Int)) → Option (GState × Int) := fun (s, ids, err, do3) =>
  (state_copied k s).bind fun o_1 =>
    bif !decide (err = 0) then
      some ((o_1, err))
    else
      (state_each_rl_L0 k (do3, s, ([], [], 0, 0, []), o_1, ids, Int.ofNat (List.length ids), 0)).bind fun o_3 =>
        match o_3 with
        | .inl o_4 =>
          some ((o_4.2, 0))
        | .inr o_4 =>
          some (o_4)
noncomputable def state_each_rl_X : Cx Tryz.prog [.agg lGState, .one (.sc (.int .i64))] := ⟨fun k => ⟨[state_Release_1_e k, state_copied_e k], [], [hkStr Tryz.prog]⟩, Tryz.f53.ntmps, Tryz.f53.results, [some ⟨0, [(3, .fnp 61 [[.int .i64], [.int .i64]]), (4, .box 28 trGState), (8, .box 28 toGState), (10, .box 28 toGState), (21, .one (.ro [.int .i64])), (22, .one (.sc (.int .i64))), (23, .one (.sc (.int .i64)))], [(8, .box 28 toGState), (10, .box 28 toGState)], state_each_rl_L0⟩]⟩
theorem state_each_rl_L0_eq (k : Nat) (x : (Int × Int) × GState × GState × GState × (List Int) × Int × Int) : state_each_rl_L0 (k + 1) x = roundF state_each_rl_X k ⟨0, [(3, .fnp 61 [[.int .i64], [.int .i64]]), (4, .box 28 trGState), (8, .box 28 toGState), (10, .box 28 toGState), (21, .one (.ro [.int .i64])), (22, .one (.sc (.int .i64))), (23, .one (.sc (.int .i64)))], [(8, .box 28 toGState), (10, .box 28 toGState)], state_each_rl_L0⟩ 0 (lp state_each_rl_c 0) x := by kernel_rfl
theorem state_each_rl_eq (k : Nat) (x : GState × (List Int) × Int × (Int × Int)) : state_each_rl k x = runF state_each_rl_X k state_each_rl_c [.agg lGState, .one (.row 3 [.int .i64]), .one (.sc (.int .i64)), .one (.fnc 61 [[.int .i64], [.int .i64]])] x := by kernel_rfl
noncomputable def state_each_rl_e (k : Nat) : Ent Tryz.prog := ⟨53, [.agg lGState, .one (.row 3 [.int .i64]), .one (.sc (.int .i64)), .one (.fnc 61 [[.int .i64], [.int .i64]])], [.agg lGState, .one (.sc (.int .i64))], state_each_rl k, calls_of (X := state_each_rl_X) (k := k) (c := state_each_rl_c) Tryz.func53 (by kernel_rfl) (by kernel_rfl) (by kernel_rfl) (LoopEqs.all (show LoopEqs state_each_rl_X state_each_rl_c state_each_rl_X.L 0 from ⟨⟨fun _ => rfl, fun k x => state_each_rl_L0_eq k x⟩, trivial⟩)) (fun x => state_each_rl_eq k x), fun _ _ => by kernel_rfl⟩
noncomputable def state_Book_c : Code := Tryz.f19.body.getD .skip
def state_Book (k : Nat) : (GState × (List Int) × Int × Int) → Option (GState × Int) := fun (s, ids, class2, size) =>
  (state_asked k (s, ids, class2, size)).bind fun o_1 =>
    (state_each_bk k (s, ids, o_1, s, class2, size)).bind fun o_2 =>
      some (o_2)
noncomputable def state_Book_X : Cx Tryz.prog [.agg lGState, .one (.sc (.int .i64))] := ⟨fun k => ⟨[state_each_bk_e k, state_each_rl_e k, state_asked_e k], [], [hkStr Tryz.prog]⟩, Tryz.f19.ntmps, Tryz.f19.results, []⟩
theorem state_Book_eq (k : Nat) (x : GState × (List Int) × Int × Int) : state_Book k x = runF state_Book_X k state_Book_c [.agg lGState, .one (.row 3 [.int .i64]), .one (.sc (.int .i64)), .one (.sc (.int .i64))] x := by kernel_rfl
noncomputable def state_Book_e (k : Nat) : Ent Tryz.prog := ⟨19, [.agg lGState, .one (.row 3 [.int .i64]), .one (.sc (.int .i64)), .one (.sc (.int .i64))], [.agg lGState, .one (.sc (.int .i64))], state_Book k, calls_of (X := state_Book_X) (k := k) (c := state_Book_c) Tryz.func19 (by kernel_rfl) (by kernel_rfl) (by kernel_rfl) (LoopEqs.all (show LoopEqs state_Book_X state_Book_c state_Book_X.L 0 from trivial)) (fun x => state_Book_eq k x), fun _ _ => by kernel_rfl⟩
noncomputable def state_Release_c : Code := Tryz.f22.body.getD .skip
def state_Release (k : Nat) : (GState × (List Int) × Int × Int) → Option (GState × Int) := fun (s, ids, class2, size) =>
  (state_asked k (s, ids, class2, size)).bind fun o_1 =>
    (state_each_rl k (s, ids, o_1, class2, size)).bind fun o_2 =>
      some (o_2)
noncomputable def state_Release_X : Cx Tryz.prog [.agg lGState, .one (.sc (.int .i64))] := ⟨fun k => ⟨[state_each_bk_e k, state_each_rl_e k, state_asked_e k], [], [hkStr Tryz.prog]⟩, Tryz.f22.ntmps, Tryz.f22.results, []⟩
theorem state_Release_eq (k : Nat) (x : GState × (List Int) × Int × Int) : state_Release k x = runF state_Release_X k state_Release_c [.agg lGState, .one (.row 3 [.int .i64]), .one (.sc (.int .i64)), .one (.sc (.int .i64))] x := by kernel_rfl
noncomputable def state_Release_e (k : Nat) : Ent Tryz.prog := ⟨22, [.agg lGState, .one (.row 3 [.int .i64]), .one (.sc (.int .i64)), .one (.sc (.int .i64))], [.agg lGState, .one (.sc (.int .i64))], state_Release k, calls_of (X := state_Release_X) (k := k) (c := state_Release_c) Tryz.func22 (by kernel_rfl) (by kernel_rfl) (by kernel_rfl) (LoopEqs.all (show LoopEqs state_Release_X state_Release_c state_Release_X.L 0 from trivial)) (fun x => state_Release_eq k x), fun _ _ => by kernel_rfl⟩
noncomputable def state_Same_c : Code := Tryz.f14.body.getD .skip
def state_Same (k : Nat) : (GState × GState) → Option (Bool) := fun (a, b) =>
  (plan_Same k ((a.1, a.2.1, a.2.2.1, a.2.2.2.1), b.1, b.2.1, b.2.2.1, b.2.2.2.1)).bind fun o_1 =>
    bif o_1 then
      (ledger_Same k (a.2.2.2.2, b.2.2.2.2)).bind fun o_3 =>
        bif o_3 then
          some (true)
        else
          some (false)
    else
      some (false)
noncomputable def state_Same_X : Cx Tryz.prog [.one (.sc (.bool))] := ⟨fun k => ⟨[plan_Same_e k, ledger_Same_e k], [], [hkStr Tryz.prog]⟩, Tryz.f14.ntmps, Tryz.f14.results, []⟩
theorem state_Same_eq (k : Nat) (x : GState × GState) : state_Same k x = runF state_Same_X k state_Same_c [.agg lGState, .agg lGState] x := by kernel_rfl
noncomputable def state_Same_e (k : Nat) : Ent Tryz.prog := ⟨14, [.agg lGState, .agg lGState], [.one (.sc (.bool))], state_Same k, calls_of (X := state_Same_X) (k := k) (c := state_Same_c) Tryz.func14 (by kernel_rfl) (by kernel_rfl) (by kernel_rfl) (LoopEqs.all (show LoopEqs state_Same_X state_Same_c state_Same_X.L 0 from trivial)) (fun x => state_Same_eq k x), fun _ _ => by kernel_rfl⟩
end Go.Proofs.YthlhbnaloefncaaGreatDoor.Ex
namespace Go.Proofs.YthlhbnaloefncaaGreatDoor.Ex
open Go
set_option linter.unusedVariables false
set_option maxHeartbeats 0
abbrev GFeluccalaw21Act := Int × Int × Int × Int × Int × Int × Int × Int × Int × Int × Int × Int × Int × Int × ByteArray × Int × (List Int) × Int × Int
abbrev lGFeluccalaw21Act : List LK := [.sc (.int .i64), .sc (.int .i64), .sc (.int .i64), .sc (.int .i64), .sc (.int .i64), .sc (.int .i64), .sc (.int .i64), .sc (.int .i64), .sc (.int .i64), .sc (.int .i64), .sc (.int .i64), .sc (.int .i64), .sc (.int .i64), .sc (.int .i64), .sc (.str), .sc (.int .i64), .row 3 [.int .i64], .sc (.int .i64), .sc (.int .i64)]
abbrev kGFeluccalaw21Act : List SK := [.int .i64, .int .i64, .int .i64, .int .i64, .int .i64, .int .i64, .int .i64, .int .i64, .int .i64, .int .i64, .int .i64, .int .i64, .int .i64, .int .i64, .str, .int .i64, .row [.int .i64], .int .i64, .int .i64]
noncomputable def feluccalaw08_Few_c : Code := Tryz.f35.body.getD .skip
def feluccalaw08_Few (k : Nat) : GPlan → Option (Bool) := fun (p) =>
  bif decide (Int.ofNat (List.length p.1) ≤ 50) then
    bif decide (Int.ofNat (List.length p.2.1) ≤ 50) then
      some (true)
    else
      some (false)
  else
    some (false)
noncomputable def feluccalaw08_Few_X : Cx Tryz.prog [.one (.sc (.bool))] := ⟨fun k => ⟨[], [], [hkStr Tryz.prog]⟩, Tryz.f35.ntmps, Tryz.f35.results, []⟩
theorem feluccalaw08_Few_eq (k : Nat) (x : GPlan) : feluccalaw08_Few k x = runF feluccalaw08_Few_X k feluccalaw08_Few_c [.agg lGPlan] x := by kernel_rfl
noncomputable def feluccalaw08_Few_e (k : Nat) : Ent Tryz.prog := ⟨35, [.agg lGPlan], [.one (.sc (.bool))], feluccalaw08_Few k, calls_of (X := feluccalaw08_Few_X) (k := k) (c := feluccalaw08_Few_c) Tryz.func35 (by kernel_rfl) (by kernel_rfl) (by kernel_rfl) (LoopEqs.all (show LoopEqs feluccalaw08_Few_X feluccalaw08_Few_c feluccalaw08_Few_X.L 0 from trivial)) (fun x => feluccalaw08_Few_eq k x), fun _ _ => by kernel_rfl⟩
noncomputable def feluccalaw21_Few_c : Code := Tryz.f11.body.getD .skip
def feluccalaw21_Few (k : Nat) : GState → Option (Bool) := fun (s) =>
  (feluccalaw08_Few k (s.1, s.2.1, s.2.2.1, s.2.2.2.1)).bind fun o_1 =>
    bif o_1 then
      bif decide (Int.ofNat (List.length s.2.2.2.2) ≤ 50) then
        some (true)
      else
        some (false)
    else
      some (false)
noncomputable def feluccalaw21_Few_X : Cx Tryz.prog [.one (.sc (.bool))] := ⟨fun k => ⟨[feluccalaw08_Few_e k], [], [hkStr Tryz.prog]⟩, Tryz.f11.ntmps, Tryz.f11.results, []⟩
theorem feluccalaw21_Few_eq (k : Nat) (x : GState) : feluccalaw21_Few k x = runF feluccalaw21_Few_X k feluccalaw21_Few_c [.agg lGState] x := by kernel_rfl
noncomputable def feluccalaw21_Few_e (k : Nat) : Ent Tryz.prog := ⟨11, [.agg lGState], [.one (.sc (.bool))], feluccalaw21_Few k, calls_of (X := feluccalaw21_Few_X) (k := k) (c := feluccalaw21_Few_c) Tryz.func11 (by kernel_rfl) (by kernel_rfl) (by kernel_rfl) (LoopEqs.all (show LoopEqs feluccalaw21_Few_X feluccalaw21_Few_c feluccalaw21_Few_X.L 0 from trivial)) (fun x => feluccalaw21_Few_eq k x), fun _ _ => by kernel_rfl⟩
noncomputable def feluccalaw21_small_c : Code := Tryz.f10.body.getD .skip
def feluccalaw21_small (_k : Nat) : Unit → Option (Bool) := fun _ => some true
noncomputable def feluccalaw21_small_X : Cx Tryz.prog [.one (.sc (.bool))] := ⟨fun k => ⟨[state_Right_e k, state_Same_e k, state_Book_e k, state_Release_e k, state_Load_e k, state_Edit_e k, state_Advance_e k, state_New_e k, feluccaref09_Same_e k], [], [hkStr Tryz.prog]⟩, Tryz.f10.ntmps, Tryz.f10.results, []⟩
theorem feluccalaw21_small_eq (x : Unit) : feluccalaw21_small 0 x = runF feluccalaw21_small_X 100 feluccalaw21_small_c [] x := by kernel_rfl
noncomputable def feluccalaw21_small_e (k : Nat) : Ent Tryz.prog := ⟨10, [], [.one (.sc (.bool))], feluccalaw21_small k, calls_of (X := feluccalaw21_small_X) (k := 100) (c := feluccalaw21_small_c) Tryz.func10 (by kernel_rfl) (by kernel_rfl) (by kernel_rfl) (LoopEqs.all (show LoopEqs feluccalaw21_small_X feluccalaw21_small_c feluccalaw21_small_X.L 0 from trivial)) (fun x => feluccalaw21_small_eq x), fun _ _ => by kernel_rfl⟩
noncomputable def feluccalaw21_done_c : Code := Tryz.f17.body.getD .skip
def feluccalaw21_done (k : Nat) : (GState × GFeluccalaw21Act) → Option (GState × (Int × Int)) := fun (s, a) =>
  bif decide (a.1 = 1) then
    (state_Edit k (s, a.2.1, a.2.2.1, a.2.2.2.1, a.2.2.2.2.1, a.2.2.2.2.2.1, a.2.2.2.2.2.2.1, a.2.2.2.2.2.2.2.1, a.2.2.2.2.2.2.2.2.1, a.2.2.2.2.2.2.2.2.2.1, a.2.2.2.2.2.2.2.2.2.2.1, a.2.2.2.2.2.2.2.2.2.2.2.1, a.2.2.2.2.2.2.2.2.2.2.2.2.1, a.2.2.2.2.2.2.2.2.2.2.2.2.2.1)).bind fun o_2 =>
      some ((o_2.1, 0, o_2.2))
  else
    bif decide (a.1 = 2) then
      (state_Load k (s, a.2.2.2.2.2.2.2.2.2.2.2.2.2.2.1)).bind fun o_3 =>
        some (o_3)
    else
      bif decide (a.1 = 3) then
        (state_Advance k (s, a.2.2.2.2.2.2.2.2.2.2.2.2.2.2.2.1)).bind fun o_4 =>
          some ((o_4.1, 0, o_4.2))
      else
        bif decide (a.1 = 4) then
          (state_Book k (s, a.2.2.2.2.2.2.2.2.2.2.2.2.2.2.2.2)).bind fun o_5 =>
            some ((o_5.1, 0, o_5.2))
        else
          (state_Release k (s, a.2.2.2.2.2.2.2.2.2.2.2.2.2.2.2.2)).bind fun o_5 =>
            some ((o_5.1, 0, o_5.2))
noncomputable def feluccalaw21_done_X : Cx Tryz.prog [.agg lGState, .agg [.sc (.int .i64), .sc (.int .i64)]] := ⟨fun k => ⟨[state_Book_e k, state_Release_e k, state_Load_e k, state_Edit_e k, state_Advance_e k], [], [hkStr Tryz.prog]⟩, Tryz.f17.ntmps, Tryz.f17.results, []⟩
theorem feluccalaw21_done_eq (k : Nat) (x : GState × GFeluccalaw21Act) : feluccalaw21_done k x = runF feluccalaw21_done_X k feluccalaw21_done_c [.agg lGState, .agg lGFeluccalaw21Act] x := by kernel_rfl
noncomputable def feluccalaw21_done_e (k : Nat) : Ent Tryz.prog := ⟨17, [.agg lGState, .agg lGFeluccalaw21Act], [.agg lGState, .agg [.sc (.int .i64), .sc (.int .i64)]], feluccalaw21_done k, calls_of (X := feluccalaw21_done_X) (k := k) (c := feluccalaw21_done_c) Tryz.func17 (by kernel_rfl) (by kernel_rfl) (by kernel_rfl) (LoopEqs.all (show LoopEqs feluccalaw21_done_X feluccalaw21_done_c feluccalaw21_done_X.L 0 from trivial)) (fun x => feluccalaw21_done_eq k x), fun _ _ => by kernel_rfl⟩
end Go.Proofs.YthlhbnaloefncaaGreatDoor.Ex
namespace Go.Proofs.YthlhbnaloefncaaGreatDoor.Ex
open Go
set_option linter.unusedVariables false
set_option linter.unusedSimpArgs false
noncomputable instance : DecidableEq GPlan := fun _ _ => Classical.propDecidable _
noncomputable instance : DecidableEq GState := fun _ _ => Classical.propDecidable _
abbrev zS : GState := ([], [], 0, 0, [])
def pl (s : GState) : GPlan := (s.1, s.2.1, s.2.2.1, s.2.2.2.1)
abbrev bk (s : GState) : List GBooked := s.2.2.2.2
def stS (p : GPlan) (b : List GBooked) : GState := (p.1, p.2.1, p.2.2.1, p.2.2.2, b)
theorem mk_pl (s : GState) : stS (pl s) (bk s) = s := rfl
def withinU (u : T48) (c : GContact) : Prop := u.1 ≤ volC c ∧ u.2.1 ≤ volC c ∧ u.2.2 ≤ volC c
def Covers (cs : List GContact) (l : List GBooked) : Prop := ∀ id, usedL l id ≠ z3 → (findC cs id).2 = true ∧ withinU (usedL l id) (findC cs id).1
def RightS (s : GState) : Prop := RightP (pl s) ∧ RightL (bk s) ∧ Covers s.1 (bk s)
theorem RightS.t {s : GState} (h : RightS s) : RightT s.1 := h.1.2.2.2.2.1.1
theorem RightS.len {s : GState} (h : RightS s) : s.1.length ≤ 4096 ∧ s.2.1.length ≤ 4096 ∧ (bk s).length ≤ 4096 := by
  have h1 : s.1.length ≤ 4096 := h.1.2.2.2.2.1.2
  have h2 : s.2.1.length ≤ 4096 := h.1.2.2.2.2.2.2
  have h3 := right_len (l := bk s) (cs := s.1) h.2.1.2 (fun b hb => by
    have e := usedL_mem h.2.1.2 hb
    have h4 := h.2.2 b.1 (by rw [e]; exact (h.2.1.1 b hb).2.1)
    have h5 := findC_some h4.1
    exact ⟨_, h5.1, h5.2⟩)
  omega
theorem copied_spec (s : GState) (k : Nat) (h1 : s.1.length ≤ 5000) (h2 : s.2.1.length ≤ 5000) (h3 : (bk s).length ≤ 5000) (hk : 20000 < k) : state_copied k s = some s := by
  unfold state_copied
  have e1 : plan_Copy k (s.1, s.2.1, s.2.2.1, s.2.2.2.1) = some (s.1, s.2.1, s.2.2.1, s.2.2.2.1) := Copy_spec _ k (by show s.1.length ≤ _; omega) (by show s.2.1.length ≤ _; omega)
  have e2 : ledger_Drop k (s.2.2.2.2, []) = some (dropL (bk s) []) := Drop_spec (bk s) [] k (by omega) (by simp) (by simp only [List.length_nil]; omega)
  rw [drop_nil] at e2
  simp only [e1, e2, Option.bind_some]
theorem RightS.copied {s : GState} (h : RightS s) (k : Nat) (hk : 20000 < k) : state_copied k s = some s := by
  have := h.len
  exact copied_spec s k (by omega) (by omega) (by omega) hk
def withB (u : T48) (c : GContact) : Bool := decide (u.1 ≤ volC c) && (decide (u.2.1 ≤ volC c) && decide (u.2.2 ≤ volC c))
theorem withB_iff (u : T48) (c : GContact) : withB u c = true ↔ withinU u c := by
  unfold withB withinU
  simp
theorem Max_spec (a b c : Int) (k : Nat) (hk : 5 ≤ k) : slices_Max_int_int k [a, b, c] = some (max (max a b) c) := by
  obtain ⟨k, rfl⟩ : ∃ m, k = m + 5 := ⟨k - 5, by omega⟩
  have s3 : ∀ m : Int, slices_Max_int_int_L0 (k + 3) ([a, b, c], m, 3) = some (.inl m) := fun m => rfl
  have s2 : ∀ m : Int, slices_Max_int_int_L0 (k + 4) ([a, b, c], m, 2) = some (.inl (mx m c)) := fun m => by rw [← s3]; rfl
  have s1 : ∀ m : Int, slices_Max_int_int_L0 (k + 5) ([a, b, c], m, 1) = some (.inl (mx (mx m b) c)) := fun m => by rw [← s2]; rfl
  have e : slices_Max_int_int (k + 5) [a, b, c] = some (mx (mx a b) c) := by
    unfold slices_Max_int_int
    have := s1 a
    simp only [show List.getD [a, b, c] (Int.toNat 0) 0 = a from rfl, this, Option.bind_some]
    rfl
  rw [e]
  have : ∀ x y : Int, mx x y = max x y := fun x y => by unfold mx; omega
  rw [this, this]
theorem over_spec (l : List GBooked) (c : GContact) (k : Nat) (hs : l.length ≤ 1000000000) (hl : SortL l) (hr : rngC c) (hk : l.length + 5 < k) : state_over k (l, c) = some (!withB (usedL l c.1) c) := by
  unfold state_over
  simp only [Used_spec l c.1 k hs hl (by omega), Max_spec _ _ _ k (by omega), Volume_spec k c hr, Option.bind_some]
  unfold withB
  by_cases h : volC c < max (max (usedL l c.1).1 (usedL l c.1).2.1) (usedL l c.1).2.2
  · rw [decide_eq_true h]
    have : ¬ ((usedL l c.1).1 ≤ volC c ∧ (usedL l c.1).2.1 ≤ volC c ∧ (usedL l c.1).2.2 ≤ volC c) := by omega
    have : (decide ((usedL l c.1).1 ≤ volC c) && (decide ((usedL l c.1).2.1 ≤ volC c) && decide ((usedL l c.1).2.2 ≤ volC c))) = false := by
      rw [Bool.eq_false_iff]
      simpa using this
    rw [this]; rfl
  · rw [decide_eq_false h]
    have : (decide ((usedL l c.1).1 ≤ volC c) && (decide ((usedL l c.1).2.1 ≤ volC c) && decide ((usedL l c.1).2.2 ≤ volC c))) = true := by
      simp only [Bool.and_eq_true, decide_eq_true_eq]
      omega
    rw [this]; rfl
def badB (s : GState) (b : GBooked) : Bool := !((findC s.1 b.1).2 && withB (usedL (bk s) b.1) (findC s.1 b.1).1)
theorem findC_id {cs : List GContact} {id : Int} (h : (findC cs id).2 = true) : (findC cs id).1.1 = id := (findC_some h).2
theorem zero_rng : rngC z28 := by unfold rngC; constructor <;> constructor <;> decide
theorem find_rng {cs : List GContact} (h : ∀ c ∈ cs, rngC c) (id : Int) : rngC (findC cs id).1 := by
  cases hf : (findC cs id).2 with
  | true => exact h _ (findC_some hf).1
  | false => rw [(findC_false hf).1]; exact zero_rng
theorem Right1_spec (s : GState) (b : GBooked) (k : Nat) (h1 : s.1.length ≤ 5000) (h3 : (bk s).length ≤ 5000) (hl : SortL (bk s)) (hr : ∀ c ∈ s.1, rngC c) (hk : 20000 < k) : state_Right_1 k (b, s) = some (badB s b) := by
  unfold state_Right_1 badB
  simp only [contacts_Find_spec s.1 b.1 k (by omega) (by omega), over_spec (bk s) _ k (by omega) hl (find_rng hr b.1) (by omega), Option.bind_some]
  cases hf : (findC s.1 b.1).2 with
  | false => rfl
  | true =>
    rw [findC_id hf]
    cases withB (usedL (bk s) b.1) (findC s.1 b.1).1 <;> rfl
theorem sr_L0 (s : GState) (h1 : s.1.length ≤ 5000) (h3 : (bk s).length ≤ 5000) (hl : SortL (bk s)) (hr : ∀ c ∈ s.1, rngC c) : ∀ (n i k : Nat), (bk s).length - i = n → n + 20000 < k → IndexFuncB_sr_L0 k (bk s, s, Int.ofNat (bk s).length, (i : Int)) = some (firstA (badB s) (bk s) i)
  | 0, i, k + 1, hn, hk => by
    rw [firstA_end (by omega)]
    simp only [IndexFuncB_sr_L0]
    rw [i_lt, decide_eq_false (by omega)]
    rfl
  | n + 1, i, k + 1, hn, hk => by
    have hi : i < (bk s).length := by omega
    rw [firstA_step zB hi]
    simp only [IndexFuncB_sr_L0]
    rw [i_lt, decide_eq_true hi, decide_eq_true (Int.natCast_nonneg i)]
    simp only [cond_true, Right1_spec s _ k h1 h3 hl hr (by omega), Option.bind_some, Int.toNat_natCast, w64_succ (by omega : i < 4611686018427387904), sr_L0 s h1 h3 hl hr n (i + 1) k (by omega) (by omega)]
    cases badB s ((bk s).getD i zB) <;> rfl
theorem sr_spec (s : GState) (k : Nat) (h1 : s.1.length ≤ 5000) (h3 : (bk s).length ≤ 5000) (hl : SortL (bk s)) (hr : ∀ c ∈ s.1, rngC c) (hk : 25000 < k) : ContainsFuncB_sr k (s.2.2.2.2, s) = some ((bk s).any (badB s)) := by
  have h0 : IndexFuncB_sr k (s.2.2.2.2, s) = some (findA (badB s) (bk s)) := by
    unfold IndexFuncB_sr
    have := sr_L0 s h1 h3 hl hr (bk s).length 0 k (by omega) (by omega)
    rw [Int.natCast_zero] at this
    simp only [this, Option.bind_some]
    exact findA_first _ _
  unfold ContainsFuncB_sr
  simp only [h0, Option.bind_some, findA_any]
  exact bif_self _
theorem covers_iff {s : GState} (h : SortL (bk s)) (hz : ∀ b ∈ bk s, b.2 ≠ z3) : (bk s).any (badB s) = false ↔ Covers s.1 (bk s) := by
  rw [List.any_eq_false]
  constructor
  · intro h1 id hid
    rcases usedL_cases (bk s) id with ⟨b, hb, e1, e2⟩ | ⟨_, e2⟩
    · have := h1 b hb
      unfold badB at this
      rw [e1] at this
      simp only [Bool.not_eq_true, Bool.not_eq_false', Bool.and_eq_true, withB_iff] at this
      exact this
    · exact absurd e2 hid
  · intro h1 b hb
    have e := usedL_mem h hb
    have := h1 b.1 (by rw [e]; exact hz b hb)
    unfold badB
    simp only [Bool.not_eq_true, Bool.not_eq_false', Bool.and_eq_true, withB_iff]
    exact this
theorem StateRight_spec (s : GState) (k : Nat) (h1 : s.1.length ≤ 5000) (h2 : s.2.1.length ≤ 5000) (h3 : (bk s).length ≤ 5000) (hr : ∀ c ∈ s.1, rngC c) (hq : ∀ r ∈ s.2.1, rngR r) (hk : 25000 < k) : ∃ b, state_Right k s = some b ∧ (b = true ↔ RightS s) := by
  obtain ⟨b1, e1, i1⟩ := plan_Right_spec (pl s) k h1 h2 hr hq (by omega)
  have e1' : plan_Right k (s.1, s.2.1, s.2.2.1, s.2.2.2.1) = some b1 := e1
  have e2 := RightB_spec (bk s) k (by omega) (by omega)
  unfold state_Right
  simp only [e1', Option.bind_some, e2]
  cases b1 with
  | false => exact ⟨false, rfl, fun h => (by cases h), fun h => absurd (i1.2 h.1) (by simp)⟩
  | true =>
    have hp := i1.1 rfl
    simp only [cond_true]
    cases hb : rightLB (bk s) with
    | false => exact ⟨false, rfl, fun h => (by cases h), fun h => by have := (chkB_iff (bk s)).2 h.2.1; unfold rightLB at hb; rw [hb] at this; cases this⟩
    | true =>
      have hl := (chkB_iff (bk s)).1 hb
      simp only [cond_true, sr_spec s k h1 h3 hl.2 hr hk, Option.bind_some]
      have hc := covers_iff hl.2 (fun b hb => (hl.1 b hb).2.1)
      cases ha : (bk s).any (badB s) with
      | true => exact ⟨false, rfl, fun h => (by cases h), fun h => by rw [hc.2 h.2.2] at ha; cases ha⟩
      | false => exact ⟨true, rfl, fun _ => ⟨hp, hl, hc.1 ha⟩, fun _ => rfl⟩
theorem RightS.true {s : GState} (h : RightS s) (k : Nat) (hk : 25000 < k) : state_Right k s = some true := by
  have hl := h.len
  obtain ⟨b, e, i⟩ := StateRight_spec s k (by omega) (by omega) (by omega) h.t.rng h.1.2.2.2.2.2.1.rng hk
  rw [e, i.2 h]
theorem planSame_spec (p q : GPlan) (k : Nat) (h1 : p.1.length ≤ 5000) (h2 : p.2.1.length ≤ 5000) (hk : 20000 < k) : plan_Same k (p, q) = some (decide (p = q)) := by
  obtain ⟨a, b, c, d⟩ := p
  obtain ⟨a', b', c', d'⟩ := q
  have h1 : a.length ≤ 5000 := h1
  have h2 : b.length ≤ 5000 := h2
  unfold plan_Same
  simp only [Same_spec a a' k (by omega) (by omega), SameR_spec b b' k (by omega) (by omega), Option.bind_some]
  by_cases e1 : c = c' <;> by_cases e2 : d = d' <;> by_cases e3 : a = a' <;> by_cases e4 : b = b' <;> simp [e1, e2, e3, e4]
theorem StateSame_spec (s t : GState) (k : Nat) (h1 : s.1.length ≤ 5000) (h2 : s.2.1.length ≤ 5000) (h3 : (bk s).length ≤ 5000) (hk : 20000 < k) : state_Same k (s, t) = some (decide (s = t)) := by
  have e1 : plan_Same k ((s.1, s.2.1, s.2.2.1, s.2.2.2.1), t.1, t.2.1, t.2.2.1, t.2.2.2.1) = some (decide (pl s = pl t)) := planSame_spec (pl s) (pl t) k h1 h2 hk
  have e2 := SameB_spec (bk s) (bk t) k (by omega) (by omega)
  unfold state_Same
  simp only [e1, e2, Option.bind_some]
  by_cases e3 : pl s = pl t
  · rw [decide_eq_true e3]
    by_cases e4 : bk s = bk t
    · rw [decide_eq_true e4, decide_eq_true (show s = t by rw [← mk_pl s, ← mk_pl t, e3, e4])]; rfl
    · rw [decide_eq_false e4, decide_eq_false (fun e => e4 (by rw [e]) : ¬ s = t)]; rfl
  · rw [decide_eq_false e3, decide_eq_false (fun e => e3 (by rw [e]) : ¬ s = t)]; rfl
theorem RightS.same {s : GState} (h : RightS s) (t : GState) (k : Nat) (hk : 20000 < k) : state_Same k (s, t) = some (decide (s = t)) := by
  have hl := h.len
  exact StateSame_spec s t k (by omega) (by omega) (by omega) hk
theorem Few21_spec (k : Nat) (s : GState) : feluccalaw21_Few k s = some (decide (s.1.length ≤ 50 ∧ s.2.1.length ≤ 50 ∧ (bk s).length ≤ 50)) := by
  have c : ∀ {α : Type} (l : List α), decide (Int.ofNat l.length ≤ 50) = decide (l.length ≤ 50) := fun l => by
    rw [Bool.eq_iff_iff]; simp only [decide_eq_true_eq]; show ((l.length : Int) ≤ 50) ↔ _; omega
  unfold feluccalaw21_Few feluccalaw08_Few
  simp only [c]
  by_cases e1 : s.1.length ≤ 50 <;> by_cases e2 : s.2.1.length ≤ 50 <;> by_cases e3 : (bk s).length ≤ 50 <;> simp [e1, e2, e3]
end Go.Proofs.YthlhbnaloefncaaGreatDoor.Ex
namespace Go.Proofs.YthlhbnaloefncaaGreatDoor.Ex
open Go
set_option linter.unusedVariables false
set_option linter.unusedSimpArgs false
def ownC (had : List Int) (ids : List Int) : List Int := ids.foldl (fun h x => putN x h) had
theorem own_len : ∀ (ids had : List Int), (ownC had ids).length ≤ had.length + ids.length ∧ ((ownC had ids).length < had.length + ids.length ↔ ¬ (ids.Nodup ∧ ∀ x ∈ ids, x ∉ had))
  | [], had => by simp [ownC]
  | x :: r, had => by
    have ih := own_len r (putN x had)
    have e : ownC had (x :: r) = ownC (putN x had) r := rfl
    rw [e]
    cases hx : hasN x had with
    | true =>
      have h1 : putN x had = had := by unfold putN; rw [hx]; rfl
      rw [h1] at ih ⊢
      have hm := hasN_iff.1 hx
      refine ⟨by simp only [List.length_cons]; omega, ⟨fun _ h => h.2 x (List.mem_cons_self ..) hm, fun _ => by simp only [List.length_cons]; omega⟩⟩
    | false =>
      have h1 : putN x had = had ++ [x] := by unfold putN; rw [hx]; rfl
      have hm : x ∉ had := fun h => by rw [hasN_iff.2 h] at hx; cases hx
      rw [h1] at ih ⊢
      rw [List.length_append, List.length_singleton] at ih
      refine ⟨by simp only [List.length_cons]; omega, ?_⟩
      rw [List.length_cons, show had.length + (r.length + 1) = had.length + 1 + r.length by omega, ih.2]
      refine not_congr ⟨fun ⟨h2, h3⟩ => ⟨List.nodup_cons.2 ⟨fun h => h3 x h (List.mem_append_right _ (List.mem_singleton.2 rfl)), h2⟩, fun y hy => ?_⟩, fun ⟨h2, h3⟩ => ⟨(List.nodup_cons.1 h2).2, fun y hy h => ?_⟩⟩
      · rcases List.mem_cons.1 hy with rfl | hy
        · exact hm
        · exact fun h => h3 y hy (List.mem_append_left _ h)
      · rcases List.mem_append.1 h with h | h
        · exact h3 y (List.mem_cons_of_mem _ hy) h
        · rw [List.mem_singleton.1 h] at hy
          exact (List.nodup_cons.1 h2).1 hy
theorem asked_L0 (ids : List Int) (c z : Int) (s : GState) (hs : ids.length ≤ 1000000000) : ∀ (n i k : Nat) (had : List Int), ids.length - i = n → n < k → state_asked_L0 k (ids, c, z, s, had, ids, Int.ofNat ids.length, (i : Int)) = some (.inl (ids, c, z, s, ownC had (ids.drop i)))
  | 0, i, k + 1, had, hn, hk => by
    simp only [state_asked_L0]
    rw [i_lt, decide_eq_false (by omega), List.drop_eq_nil_of_le (by omega)]
    rfl
  | n + 1, i, k + 1, had, hn, hk => by
    have hi : i < ids.length := by omega
    simp only [state_asked_L0]
    rw [i_lt, decide_eq_true hi, decide_eq_true (Int.natCast_nonneg i), Int.toNat_natCast, w64_succ (by omega), getD_drop (d := 0) hi]
    exact asked_L0 ids c z s hs n (i + 1) k _ (by omega) (by omega)
theorem as_L0 (ids : List Int) (s : GState) (h1 : s.1.length ≤ 5000) (hs : ids.length ≤ 1000000000) : ∀ (n i k : Nat), ids.length - i = n → n + 5000 < k → IndexFuncI_as_L0 k (ids, s, Int.ofNat ids.length, (i : Int)) = some (firstA (fun id => !(findC s.1 id).2) ids i)
  | 0, i, k + 1, hn, hk => by
    rw [firstA_end (by omega)]
    simp only [IndexFuncI_as_L0]
    rw [i_lt, decide_eq_false (by omega)]
    rfl
  | n + 1, i, k + 1, hn, hk => by
    have hi : i < ids.length := by omega
    rw [firstA_step 0 hi]
    simp only [IndexFuncI_as_L0, state_asked_1]
    rw [i_lt, decide_eq_true hi, decide_eq_true (Int.natCast_nonneg i)]
    simp only [cond_true, contacts_Find_spec s.1 _ k (by omega) (by omega), Option.bind_some, Int.toNat_natCast, w64_succ (by omega : i < 4611686018427387904), as_L0 ids s h1 hs n (i + 1) k (by omega) (by omega)]
    cases (findC s.1 (ids.getD i 0)).2 <;> rfl
theorem as_spec (ids : List Int) (s : GState) (k : Nat) (h1 : s.1.length ≤ 5000) (hs : ids.length ≤ 1000) (hk : 10000 < k) : ContainsFuncI_as k (ids, s) = some (ids.any fun id => !(findC s.1 id).2) := by
  have h0 : IndexFuncI_as k (ids, s) = some (findA (fun id => !(findC s.1 id).2) ids) := by
    unfold IndexFuncI_as
    have := as_L0 ids s h1 (by omega) ids.length 0 k (by omega) (by omega)
    rw [Int.natCast_zero] at this
    simp only [this, Option.bind_some]
    exact findA_first _ _
  unfold ContainsFuncI_as
  simp only [h0, Option.bind_some, findA_any]
  exact bif_self _
def goodA (ids : List Int) (n size : Int) : Prop := ids ≠ [] ∧ ids.Nodup ∧ clsB n = true ∧ 0 ≤ size ∧ size ≤ 1099511627775
instance (ids : List Int) (n size : Int) : Decidable (goodA ids n size) := by unfold goodA; infer_instance
def askE (cs : List GContact) (ids : List Int) (n size : Int) : Int := if ¬ goodA ids n size then 1 else if (ids.any fun id => !(findC cs id).2) = true then 6 else 0
theorem asked_spec (s : GState) (ids : List Int) (n size : Int) (k : Nat) (h1 : s.1.length ≤ 5000) (hs : ids.length ≤ 1000) (hk : 10000 < k) : state_asked k (s, ids, n, size) = some (askE s.1 ids n size) := by
  have e0 := asked_L0 ids n size s (by omega) ids.length 0 k [] (by omega) (by omega)
  rw [Int.natCast_zero, List.drop_zero] at e0
  have hl := (own_len ids []).2
  simp only [List.length_nil, Nat.zero_add, List.not_mem_nil, not_false_eq_true, implies_true, and_true] at hl
  unfold state_asked
  simp only [e0, Option.bind_some, as_spec ids s k h1 hs hk]
  have c1 : decide (Int.ofNat ids.length = 0) = decide (ids = []) := by
    rw [Bool.eq_iff_iff]; simp only [decide_eq_true_eq]
    show ((ids.length : Int) = 0) ↔ _
    rw [← List.length_eq_zero_iff]; omega
  have c2 : decide (Int.ofNat (ownC [] ids).length < Int.ofNat ids.length) = decide (¬ ids.Nodup) := by
    rw [Bool.eq_iff_iff]; simp only [decide_eq_true_eq]
    show (((ownC [] ids).length : Int) < (ids.length : Int)) ↔ _
    rw [← hl]; omega
  have e : ∀ {x : Int} (p : Prop), ¬ goodA ids n size → (if ¬ goodA ids n size then (1 : Int) else x) = 1 := fun _ h => if_pos h
  unfold askE
  simp only [c1, c2]
  by_cases g1 : ids = []
  · rw [decide_eq_true g1, if_pos (fun h => h.1 g1)]; rfl
  rw [decide_eq_false g1]
  by_cases g2 : ids.Nodup
  · rw [decide_eq_false (fun h => h g2)]
    by_cases g3 : n < 0
    · rw [decide_eq_true g3, if_pos (fun h => by have := of_decide_eq_true h.2.2.1; omega)]; rfl
    rw [decide_eq_false g3]
    by_cases g4 : 3 ≤ n
    · rw [decide_eq_true g4, if_pos (fun h => by have := of_decide_eq_true h.2.2.1; omega)]; rfl
    rw [decide_eq_false g4]
    by_cases g5 : size < 0
    · rw [decide_eq_true g5, if_pos (fun h => by have := h.2.2.2.1; omega)]; rfl
    rw [decide_eq_false g5]
    by_cases g6 : 1099511627775 < size
    · rw [decide_eq_true g6, if_pos (fun h => by have := h.2.2.2.2; omega)]; rfl
    rw [decide_eq_false g6, if_neg (fun h => h ⟨g1, g2, decide_eq_true (by omega), by omega, by omega⟩)]
    cases ids.any fun id => !(findC s.1 id).2 <;> rfl
  · rw [decide_eq_true (by exact g2), if_pos (fun h => g2 h.2.1)]; rfl
theorem askE_0 {cs : List GContact} {ids : List Int} {n size : Int} (h : askE cs ids n size = 0) : goodA ids n size ∧ ∀ id ∈ ids, (findC cs id).2 = true := by
  unfold askE at h
  by_cases g : goodA ids n size
  · rw [if_neg (fun h => h g)] at h
    refine ⟨g, fun id hid => ?_⟩
    cases ha : (ids.any fun id => !(findC cs id).2) with
    | true => rw [ha] at h; cases h
    | false =>
      have := List.any_eq_false.1 ha id hid
      simpa using this
  · rw [if_pos g] at h; cases h
def runOk (okf : Int → T48 → Bool) (f : T48 → T48) : List GBooked → List Int → Bool
  | _, [] => true
  | l, id :: r => okf id (usedL l id) && runOk okf f (withL l id (f (usedL l id))) r
def runL (f : T48 → T48) : List GBooked → List Int → List GBooked
  | l, [] => l
  | l, id :: r => runL f (withL l id (f (usedL l id))) r
theorem all_cg {α : Type} {l : List α} {p q : α → Bool} (h : ∀ x ∈ l, p x = q x) : l.all p = l.all q := by
  induction l with
  | nil => rfl
  | cons x r ih => rw [List.all_cons, List.all_cons, h x (List.mem_cons_self ..), ih fun y hy => h y (List.mem_cons_of_mem _ hy)]
theorem runOk_all (okf : Int → T48 → Bool) (f : T48 → T48) : ∀ {ids : List Int} {l : List GBooked}, SortL l → ids.Nodup → runOk okf f l ids = ids.all fun id => okf id (usedL l id)
  | [], l, hl, hn => rfl
  | x :: r, l, hl, hn => by
    have hn' := List.nodup_cons.1 hn
    rw [runOk, runOk_all okf f (withL_sort hl _ _) hn'.2, List.all_cons]
    congr 1
    exact all_cg fun id hid => by rw [usedL_with hl, if_neg (fun e => hn'.1 (by rw [← e]; exact hid))]
theorem usedL_run (f : T48 → T48) : ∀ {ids : List Int} {l : List GBooked}, SortL l → ids.Nodup → ∀ j, usedL (runL f l ids) j = if j ∈ ids then f (usedL l j) else usedL l j
  | [], l, hl, hn, j => by simp [runL]
  | x :: r, l, hl, hn, j => by
    have hn' := List.nodup_cons.1 hn
    rw [runL, usedL_run f (withL_sort hl _ _) hn'.2 j, usedL_with hl]
    by_cases h : j = x
    · subst h
      rw [if_neg hn'.1, if_pos rfl, if_pos (List.mem_cons_self ..)]
    · rw [if_neg h]
      by_cases h2 : j ∈ r
      · rw [if_pos h2, if_pos (List.mem_cons_of_mem _ h2)]
      · rw [if_neg h2, if_neg (fun h3 => (List.mem_cons.1 h3).elim h h2)]
theorem run_right {okf : Int → T48 → Bool} (f : T48 → T48) : ∀ {ids : List Int} {l : List GBooked}, RightL l → ids.Nodup → (∀ id ∈ ids, 1 ≤ id ∧ id ≤ 1048576) → (∀ id u, okU u → okf id u = true → okU (f u)) → runOk okf f l ids = true → RightL (runL f l ids)
  | [], l, hl, hn, hr, ho, h => hl
  | x :: r, l, hl, hn, hr, ho, h => by
    have hn' := List.nodup_cons.1 hn
    rw [runOk, Bool.and_eq_true] at h
    rw [runL]
    exact run_right (okf := okf) f (withL_right hl (hr x (List.mem_cons_self ..)) (ho x _ (usedL_ok hl x) h.1)) hn'.2 (fun id hid => hr id (List.mem_cons_of_mem _ hid)) ho h.2
theorem withL_len' (l : List GBooked) (id : Int) (u : T48) : (withL l id u).length ≤ l.length + 1 := by
  have key : ∀ l : List GBooked, (l.filter fun b => decide (b.1 < id)).length + (l.filter fun b => decide (id < b.1)).length ≤ l.length := by
    intro l
    induction l with
    | nil => simp
    | cons b r ih =>
      rw [List.filter_cons, List.filter_cons]
      by_cases h1 : b.1 < id
      · rw [if_pos (decide_eq_true h1), if_neg (by simp; omega)]
        simp only [List.length_cons]; omega
      · rw [if_neg (by simpa using h1)]
        split <;> simp only [List.length_cons] <;> omega
  have := key l
  unfold withL oneL
  cases decide (u = z3) <;> simp only [cond_true, cond_false, List.length_append, List.length_cons, List.length_nil] <;> omega
end Go.Proofs.YthlhbnaloefncaaGreatDoor.Ex
namespace Go.Proofs.YthlhbnaloefncaaGreatDoor.Ex
open Go
set_option linter.unusedVariables false
set_option linter.unusedSimpArgs false
def bkOk (cs : List GContact) (n size : Int) (id : Int) (u : T48) : Bool := bookB u (findC cs id).1 n size
def bkF (n size : Int) (u : T48) : T48 := addU u n size
def rlOk (n size : Int) (id : Int) (u : T48) : Bool := freeB u n size
def rlF (n size : Int) (u : T48) : T48 := addU u n (-size)
theorem bk_L0 (s : GState) (h : RightS s) (n size : Int) (ids : List Int) (hs : ids.length ≤ 50) (hf : ∀ id ∈ ids, (findC s.1 id).2 = true) : ∀ (m i k : Nat) (x : GState), ids.length - i = m → m + 20100 < k → i ≤ ids.length → RightL (bk x) → (bk x).length ≤ 5000 + i →
    state_each_bk_L0 k ((s, n, size), s, zS, x, ids, Int.ofNat ids.length, (i : Int)) = some (bif runOk (bkOk s.1 n size) (bkF n size) (bk x) (ids.drop i) then .inl (zS, stS (pl x) (runL (bkF n size) (bk x) (ids.drop i))) else .inr (s, 8))
  | 0, i, k + 1, x, hm, hk, hi, hl, hx => by
    simp only [state_each_bk_L0]
    rw [i_lt, decide_eq_false (by omega), List.drop_eq_nil_of_le (by omega)]
    rfl
  | m + 1, i, k + 1, x, hm, hk, hi, hl, hx => by
    have hlt : i < ids.length := by omega
    have hmem : ids.getD i 0 ∈ ids := by rw [List.getD_eq_getElem?_getD, List.getElem?_eq_getElem hlt]; exact List.getElem_mem hlt
    have hfd := hf _ hmem
    have hid := findC_id hfd
    have hr := find_rng h.t.rng (ids.getD i 0)
    have hb := Book_spec (bk x) (findC s.1 (ids.getD i 0)).1 n size k (by omega) hl hr (by omega)
    rw [hid] at hb
    have hlen := h.len
    have hcon := h.t.1 _ (findC_some hfd).1
    rw [getD_drop (d := 0) hlt, runOk, runL]
    simp only [state_each_bk_L0, state_Book_1]
    rw [i_lt, decide_eq_true hlt, decide_eq_true (Int.natCast_nonneg i), Int.toNat_natCast]
    simp only [cond_true, contacts_Find_spec s.1 _ k (by omega) (by omega), Option.bind_some, hb, hfd]
    show _ = some (bif (bookB (usedL (bk x) (ids.getD i 0)) (findC s.1 (ids.getD i 0)).1 n size && _) then _ else _)
    cases ho : bookB (usedL (bk x) (ids.getD i 0)) (findC s.1 (ids.getD i 0)).1 n size with
    | false =>
      simp only [cond_false, Option.bind_some, h.copied k (by omega), Bool.false_and]
    | true =>
      simp only [cond_true, Option.bind_some, Bool.true_and, w64_succ (by omega : i < 4611686018427387904)]
      have hu := add_62 (usedL_ok hl (ids.getD i 0)) ho
      have hin : 1 ≤ ids.getD i 0 ∧ ids.getD i 0 ≤ 1048576 := by
        rw [← hid]
        unfold conB at hcon
        simp only [Bool.and_eq_true, decide_eq_true_eq] at hcon
        exact hcon.1.2
      have hu2 : okU (addU (usedL (bk x) (ids.getD i 0)) n size) := by
        obtain ⟨u1, u2, u3⟩ := usedL_ok hl (ids.getD i 0)
        unfold addU
        unfold getU at hu
        split
        · rename_i e; rw [if_pos e] at hu; exact ⟨hu, u2, u3⟩
        · rename_i e
          rw [if_neg e] at hu
          split
          · rename_i e2; rw [if_pos e2] at hu; exact ⟨u1, hu, u3⟩
          · rename_i e2; rw [if_neg e2] at hu; exact ⟨u1, u2, hu⟩
      have hw := withL_len' (bk x) (ids.getD i 0) (addU (usedL (bk x) (ids.getD i 0)) n size)
      exact bk_L0 s h n size ids hs hf m (i + 1) k (x.1, x.2.1, x.2.2.1, x.2.2.2.1, withL (bk x) (ids.getD i 0) (addU (usedL (bk x) (ids.getD i 0)) n size)) (by omega) (by omega) (by omega) (withL_right hl hin hu2) (by show (withL _ _ _).length ≤ _; omega)
theorem free_ok {u : T48} (hu : okU u) {n size : Int} (h : freeB u n size = true) : okU (addU u n (-size)) := by
  unfold freeB at h
  simp only [Bool.and_eq_true, decide_eq_true_eq] at h
  obtain ⟨h1, h2, h3⟩ := h
  obtain ⟨u1, u2, u3⟩ := hu
  unfold getU at h3
  unfold addU
  unfold okU In62 at *
  rcases cls_cases h1 with rfl | rfl | rfl
  · simp only [if_true] at h3 ⊢; omega
  · simp only [show ¬ (1 : Int) = 0 by omega, if_false, if_true] at h3 ⊢; omega
  · simp only [show ¬ (2 : Int) = 0 by omega, show ¬ (2 : Int) = 1 by omega, if_false] at h3 ⊢; omega
theorem book_ok {u : T48} (hu : okU u) {c : GContact} {n size : Int} (h : bookB u c n size = true) : okU (addU u n size) := by
  have hx := add_62 hu h
  obtain ⟨u1, u2, u3⟩ := hu
  unfold addU
  unfold getU at hx
  split
  · rename_i e; rw [if_pos e] at hx; exact ⟨hx, u2, u3⟩
  · rename_i e
    rw [if_neg e] at hx
    split
    · rename_i e2; rw [if_pos e2] at hx; exact ⟨u1, hx, u3⟩
    · rename_i e2; rw [if_neg e2] at hx; exact ⟨u1, u2, hx⟩
theorem rl_L0 (s : GState) (h : RightS s) (n size : Int) (ids : List Int) (hs : ids.length ≤ 50) (hr : ∀ id ∈ ids, 1 ≤ id ∧ id ≤ 1048576) : ∀ (m i k : Nat) (x : GState), ids.length - i = m → m + 20100 < k → i ≤ ids.length → RightL (bk x) → (bk x).length ≤ 5000 + i →
    state_each_rl_L0 k ((n, size), s, zS, x, ids, Int.ofNat ids.length, (i : Int)) = some (bif runOk (rlOk n size) (rlF n size) (bk x) (ids.drop i) then .inl (zS, stS (pl x) (runL (rlF n size) (bk x) (ids.drop i))) else .inr (s, 8))
  | 0, i, k + 1, x, hm, hk, hi, hl, hx => by
    simp only [state_each_rl_L0]
    rw [i_lt, decide_eq_false (by omega), List.drop_eq_nil_of_le (by omega)]
    rfl
  | m + 1, i, k + 1, x, hm, hk, hi, hl, hx => by
    have hlt : i < ids.length := by omega
    have hmem : ids.getD i 0 ∈ ids := by rw [List.getD_eq_getElem?_getD, List.getElem?_eq_getElem hlt]; exact List.getElem_mem hlt
    have hb := Release_spec (bk x) (ids.getD i 0) n size k (by omega) hl (by omega)
    rw [getD_drop (d := 0) hlt, runOk, runL]
    simp only [state_each_rl_L0, state_Release_1]
    rw [i_lt, decide_eq_true hlt, decide_eq_true (Int.natCast_nonneg i), Int.toNat_natCast]
    simp only [cond_true, Option.bind_some, hb]
    show _ = some (bif (freeB (usedL (bk x) (ids.getD i 0)) n size && _) then _ else _)
    cases ho : freeB (usedL (bk x) (ids.getD i 0)) n size with
    | false =>
      simp only [cond_false, Option.bind_some, h.copied k (by omega), Bool.false_and]
    | true =>
      simp only [cond_true, Option.bind_some, Bool.true_and, w64_succ (by omega : i < 4611686018427387904)]
      have hw := withL_len' (bk x) (ids.getD i 0) (addU (usedL (bk x) (ids.getD i 0)) n (-size))
      exact rl_L0 s h n size ids hs hr m (i + 1) k (x.1, x.2.1, x.2.2.1, x.2.2.2.1, withL (bk x) (ids.getD i 0) (addU (usedL (bk x) (ids.getD i 0)) n (-size))) (by omega) (by omega) (by omega) (withL_right hl (hr _ hmem) (free_ok (usedL_ok hl _) ho)) (by show (withL _ _ _).length ≤ _; omega)
theorem found_rng {s : GState} (h : RightS s) {id : Int} (hf : (findC s.1 id).2 = true) : 1 ≤ id ∧ id ≤ 1048576 := by
  have hcon := h.t.1 _ (findC_some hf).1
  have hid := findC_id hf
  rw [← hid]
  unfold conB at hcon
  simp only [Bool.and_eq_true, decide_eq_true_eq] at hcon
  exact hcon.1.2
def eachA (s : GState) (ids : List Int) (n size : Int) (okf : Int → T48 → Bool) (f : T48 → T48) : GState × Int :=
  if askE s.1 ids n size ≠ 0 then (s, askE s.1 ids n size) else bif runOk okf f (bk s) ids then (stS (pl s) (runL f (bk s) ids), 0) else (s, 8)
theorem Book21_spec {s : GState} (h : RightS s) (ids : List Int) (n size : Int) (hs : ids.length ≤ 50) (k : Nat) (hk : 30000 < k) : state_Book k (s, ids, n, size) = some (eachA s ids n size (bkOk s.1 n size) (bkF n size)) := by
  have hl := h.len
  unfold state_Book state_each_bk eachA
  simp only [asked_spec s ids n size k (by omega) (by omega) (by omega), h.copied k (by omega), Option.bind_some]
  by_cases he : askE s.1 ids n size = 0
  · rw [decide_eq_true he, if_neg (by simp [he])]
    obtain ⟨hg, hf⟩ := askE_0 he
    have := bk_L0 s h n size ids hs hf ids.length 0 k s (by omega) (by omega) (by omega) h.2.1 (by omega)
    rw [Int.natCast_zero, List.drop_zero] at this
    simp only [Bool.not_true, cond_false, this, Option.bind_some]
    cases runOk (bkOk s.1 n size) (bkF n size) (bk s) ids <;> rfl
  · rw [decide_eq_false he, if_pos he]
    rfl
theorem Release21_spec {s : GState} (h : RightS s) (ids : List Int) (n size : Int) (hs : ids.length ≤ 50) (k : Nat) (hk : 30000 < k) : state_Release k (s, ids, n, size) = some (eachA s ids n size (rlOk n size) (rlF n size)) := by
  have hl := h.len
  unfold state_Release state_each_rl eachA
  simp only [asked_spec s ids n size k (by omega) (by omega) (by omega), h.copied k (by omega), Option.bind_some]
  by_cases he : askE s.1 ids n size = 0
  · rw [decide_eq_true he, if_neg (by simp [he])]
    obtain ⟨hg, hf⟩ := askE_0 he
    have := rl_L0 s h n size ids hs (fun id hid => found_rng h (hf id hid)) ids.length 0 k s (by omega) (by omega) (by omega) h.2.1 (by omega)
    rw [Int.natCast_zero, List.drop_zero] at this
    simp only [Bool.not_true, cond_false, this, Option.bind_some]
    cases runOk (rlOk n size) (rlF n size) (bk s) ids <;> rfl
  · rw [decide_eq_false he, if_pos he]
    rfl
theorem add_within {u : T48} {c : GContact} (hu : okU u) (hw : withinU u c) {n size : Int} (h : bookB u c n size = true) : withinU (addU u n size) c := by
  unfold bookB at h
  simp only [Bool.and_eq_true, decide_eq_true_eq] at h
  obtain ⟨_, h1, h2, h3⟩ := h
  unfold roomL at h3
  rw [if_pos h1] at h3
  obtain ⟨u1, u2, u3⟩ := hu
  have hv := vol_62 c
  unfold withinU addU
  unfold withinU at hw
  unfold In62 at *
  rcases cls_cases h1 with rfl | rfl | rfl
  · unfold backL satB at h3; simp only [if_true] at h3 ⊢; omega
  · unfold backL satB at h3; simp only [show ¬ (1 : Int) = 0 by omega, if_false, if_true] at h3 ⊢; omega
  · unfold backL satB at h3; simp only [show ¬ (2 : Int) = 0 by omega, show ¬ (2 : Int) = 1 by omega, if_false] at h3 ⊢; omega
theorem free_within {u : T48} {c : GContact} (hw : withinU u c) {n size : Int} (h : freeB u n size = true) : withinU (addU u n (-size)) c := by
  unfold freeB at h
  simp only [Bool.and_eq_true, decide_eq_true_eq] at h
  obtain ⟨h1, h2, h3⟩ := h
  unfold withinU addU
  unfold withinU at hw
  rcases cls_cases h1 with rfl | rfl | rfl
  · simp only [if_true]; omega
  · simp only [show ¬ (1 : Int) = 0 by omega, if_false, if_true]; omega
  · simp only [show ¬ (2 : Int) = 0 by omega, show ¬ (2 : Int) = 1 by omega, if_false]; omega
theorem within_z3 (c : GContact) : withinU z3 c := by
  have := vol_62 c
  unfold In62 at this
  unfold withinU
  simp only
  omega
theorem covers_within {cs : List GContact} {l : List GBooked} (h : Covers cs l) (id : Int) : withinU (usedL l id) (findC cs id).1 := by
  by_cases e : usedL l id = z3
  · rw [e]; exact within_z3 _
  · exact (h id e).2
theorem run_keeps {s : GState} (h : RightS s) {okf : Int → T48 → Bool} {f : T48 → T48} {ids : List Int} (hn : ids.Nodup) (hf : ∀ id ∈ ids, (findC s.1 id).2 = true) (h1 : ∀ id u, okU u → okf id u = true → okU (f u)) (h2 : ∀ id u, okU u → withinU u (findC s.1 id).1 → okf id u = true → withinU (f u) (findC s.1 id).1) (ho : runOk okf f (bk s) ids = true) : RightS (stS (pl s) (runL f (bk s) ids)) := by
  have hr := run_right (okf := okf) f h.2.1 hn (fun id hid => found_rng h (hf id hid)) h1 ho
  refine ⟨h.1, hr, fun id hid => ?_⟩
  show (findC s.1 id).2 = true ∧ withinU (usedL (runL f (bk s) ids) id) (findC s.1 id).1
  have hu : usedL (runL f (bk s) ids) id ≠ z3 := hid
  rw [usedL_run f h.2.1.2 hn] at hu ⊢
  rw [runOk_all okf f h.2.1.2 hn] at ho
  split at hu
  · rename_i hm
    rw [if_pos hm]
    exact ⟨hf id hm, h2 id _ (usedL_ok h.2.1 id) (covers_within h.2.2 id) (List.all_eq_true.1 ho id hm)⟩
  · rename_i hm
    rw [if_neg hm]
    exact h.2.2 id hu
def Keeps (s : GState) (o : GState × Int) : Prop := (o.2 ≠ 0 ∧ o.1 = s) ∨ (o.2 = 0 ∧ RightS o.1 ∧ s.2.2.1 ≤ o.1.2.2.1)
theorem each_keeps {s : GState} (h : RightS s) {okf : Int → T48 → Bool} {f : T48 → T48} {ids : List Int} {n size : Int} (h1 : ∀ id u, okU u → okf id u = true → okU (f u)) (h2 : ∀ id u, okU u → withinU u (findC s.1 id).1 → okf id u = true → withinU (f u) (findC s.1 id).1) : Keeps s (eachA s ids n size okf f) := by
  unfold eachA
  by_cases he : askE s.1 ids n size = 0
  · rw [if_neg (by simp [he])]
    obtain ⟨hg, hf⟩ := askE_0 he
    cases ho : runOk okf f (bk s) ids with
    | false => exact .inl ⟨by show (8 : Int) ≠ 0; decide, rfl⟩
    | true => exact .inr ⟨rfl, run_keeps h hg.2.1 hf h1 h2 ho, Int.le_refl _⟩
  · rw [if_pos he]
    exact .inl ⟨he, rfl⟩
theorem book_keeps {s : GState} (h : RightS s) (ids : List Int) (n size : Int) : Keeps s (eachA s ids n size (bkOk s.1 n size) (bkF n size)) :=
  each_keeps h (fun id u hu ho => book_ok hu ho) (fun id u hu hw ho => add_within hu hw ho)
theorem free_keeps {s : GState} (h : RightS s) (ids : List Int) (n size : Int) : Keeps s (eachA s ids n size (rlOk n size) (rlF n size)) :=
  each_keeps h (fun id u hu ho => free_ok hu ho) (fun id u hu hw ho => free_within hw ho)
def advA (s : GState) (now : Int) : GState × Int := if now < s.2.2.1 ∨ 2147483647 < now then (s, 7) else (stS (advP (pl s) now) (dropL (bk s) (sorted (goneC now s.1))), 0)
theorem Advance21_spec {s : GState} (h : RightS s) (now : Int) (k : Nat) (hk : 30000 < k) : state_Advance k (s, now) = some (advA s now) := by
  have hl := h.len
  have e1 : plan_Advance k ((s.1, s.2.1, s.2.2.1, s.2.2.2.1), now) = _ := Advance_cases h.1 (by show s.1.length ≤ _; omega) (by show s.2.1.length ≤ _; omega) now k (by omega)
  have hg := goneC_len now s.1
  have hsl := sorted_len (goneC now s.1)
  unfold state_Advance advA
  simp only [e1, Option.bind_some, h.copied k (by omega)]
  have ec : (pl s).2.2.1 = s.2.2.1 := rfl
  have e0 : (pl s).1 = s.1 := rfl
  rw [ec, e0]
  by_cases hc : now < s.2.2.1 ∨ 2147483647 < now
  · simp only [if_pos hc]; rfl
  · simp only [if_neg hc, decide_true, Bool.not_true, cond_false, Drop_spec (bk s) (sorted (goneC now s.1)) k (by omega) (by omega) (by omega), Option.bind_some]
    rfl
theorem find_keep {cs ds : List GContact} (hd : ds.Pairwise fun a b => a.1 ≠ b.1) {id : Int} (hf : (findC cs id).2 = true) (hm : (findC cs id).1 ∈ ds) : findC ds id = findC cs id := by
  have := findC_mem hd hm
  rw [findC_id hf] at this
  rw [this]
  exact Prod.ext rfl hf.symm
theorem drop_right {l : List GBooked} (h : RightL l) (ids : List Int) : RightL (dropL l ids) := h.filter _
theorem adv_keeps {s : GState} (h : RightS s) (now : Int) : Keeps s (advA s now) := by
  unfold advA
  by_cases hc : now < s.2.2.1 ∨ 2147483647 < now
  · rw [if_pos hc]; exact .inl ⟨by show (7 : Int) ≠ 0; decide, rfl⟩
  · rw [if_neg hc]
    have hp : RightP (advP (pl s) now) := advP_right h.1 (by show s.2.2.1 ≤ now; omega) (by omega)
    refine .inr ⟨rfl, ⟨hp, drop_right h.2.1 _, fun id hid => ?_⟩, by show s.2.2.1 ≤ now; omega⟩
    have hid : usedL (dropL (bk s) (sorted (goneC now s.1))) id ≠ z3 := hid
    show (findC (leftC now s.1) id).2 = true ∧ withinU (usedL (dropL (bk s) (sorted (goneC now s.1))) id) (findC (leftC now s.1) id).1
    rw [usedL_drop h.2.1.2] at hid ⊢
    split at hid
    · exact absurd rfl hid
    · rename_i hm
      rw [if_neg hm]
      have hcv := h.2.2 id hid
      have hin : (findC s.1 id).1 ∈ leftC now s.1 := by
        unfold leftC
        refine List.mem_filter.2 ⟨(findC_some hcv.1).1, decide_eq_true ?_⟩
        refine Decidable.byContradiction fun hn => hm ((sorted_perm _).mem_iff.2 ?_)
        unfold goneC
        exact List.mem_map.2 ⟨_, List.mem_filter.2 ⟨(findC_some hcv.1).1, by simpa using hn⟩, findC_id hcv.1⟩
      rw [find_keep (ds := leftC now s.1) (hp.2.2.2.2.1.1.ids) hcv.1 hin]
      exact hcv
theorem Edit21_cases {s : GState} (h : RightS s) (d : GDirective) (hd : rngD d) (k : Nat) (hk : 30000 < k) : ∃ o, state_Edit k (s, d) = some o ∧ Keeps s o := by
  have hl := h.len
  have hdr : ledger_Drop k (s.2.2.2.2, []) = some (bk s) := by
    have := Drop_spec (bk s) [] k (by omega) (by simp) (by simp only [List.length_nil]; omega)
    rwa [drop_nil] at this
  have hdi : ledger_Drop k (s.2.2.2.2, [d.2.2.1]) = some (dropL (bk s) [d.2.2.1]) := Drop_spec (bk s) [d.2.2.1] k (by omega) (by simp) (by simp only [List.length_cons, List.length_nil]; omega)
  unfold state_Edit
  rcases Apply_cases h.1 (by show s.1.length ≤ _; omega) (by show s.2.1.length ≤ _; omega) d hd k (by omega) with ⟨e, he, ha⟩ | ⟨q, ha, hq, hcl, hkp⟩
  · have ha' : plan_Apply k ((s.1, s.2.1, s.2.2.1, s.2.2.2.1), d) = some (pl s, e) := ha
    simp only [ha', Option.bind_some, h.copied k (by omega), decide_eq_false he, Bool.not_false, cond_true]
    exact ⟨_, rfl, .inl ⟨he, rfl⟩⟩
  · have ha' : plan_Apply k ((s.1, s.2.1, s.2.2.1, s.2.2.2.1), d) = some (q, 0) := ha
    have hqt : RightT q.1 := hq.2.2.2.2.1.1
    have hql : q.1.length ≤ 4096 := hq.2.2.2.2.1.2
    have hcl' : q.2.2.1 = s.2.2.1 := hcl
    simp only [ha', Option.bind_some, hdr, hdi, decide_true, Bool.not_true, cond_false]
    rcases hkp with ⟨o1, o2, e1⟩ | ⟨o1, o2, ⟨c, hc, hci⟩, hkeep⟩ | ⟨hno, hkeep⟩
    · have b1 : (d.1 == 2 && d.2.1 == 1) = true := by simp [o1, o2]
      rw [b1]
      refine ⟨_, rfl, .inr ⟨rfl, ⟨hq, drop_right h.2.1 _, fun id hid => ?_⟩, by show s.2.2.1 ≤ q.2.2.1; omega⟩⟩
      have hid : usedL (dropL (bk s) [d.2.2.1]) id ≠ z3 := hid
      show (findC q.1 id).2 = true ∧ withinU (usedL (dropL (bk s) [d.2.2.1]) id) (findC q.1 id).1
      rw [usedL_drop h.2.1.2] at hid ⊢
      split at hid
      · exact absurd rfl hid
      · rename_i hm
        rw [if_neg hm]
        have hcv := h.2.2 id hid
        have hin : (findC s.1 id).1 ∈ q.1 := by
          rw [e1]
          refine List.mem_filter.2 ⟨(findC_some hcv.1).1, ?_⟩
          unfold keepC
          rw [findC_id hcv.1]
          simpa using hm
        rw [find_keep hqt.ids hcv.1 hin]
        exact hcv
    · have b1 : (d.1 == 2 && d.2.1 == 1) = false := by simp [o1]
      have b2 : (d.1 == 3 && d.2.1 == 1) = true := by simp [o1, o2]
      have hfc : findC q.1 d.2.2.1 = (c, true) := by rw [← hci]; exact findC_mem hqt.ids hc
      have hov := over_spec (bk s) c k (by omega) h.2.1.2 (hqt.rng c hc) (by omega)
      rw [hci] at hov
      rw [b1, b2]
      simp only [cond_true, cond_false, contacts_Find_spec q.1 d.2.2.1 k (by omega) (by omega), Option.bind_some, hfc, hov, h.copied k (by omega)]
      cases hw : withB (usedL (bk s) d.2.2.1) c with
      | false => exact ⟨_, rfl, .inl ⟨by show (8 : Int) ≠ 0; decide, rfl⟩⟩
      | true =>
        refine ⟨_, rfl, .inr ⟨rfl, ⟨hq, h.2.1, fun id hid => ?_⟩, by show s.2.2.1 ≤ q.2.2.1; omega⟩⟩
        have hid : usedL (bk s) id ≠ z3 := hid
        show (findC q.1 id).2 = true ∧ withinU (usedL (bk s) id) (findC q.1 id).1
        have hcv := h.2.2 id hid
        by_cases hi : id = d.2.2.1
        · rw [hi, hfc]
          exact ⟨rfl, (withB_iff _ _).1 hw⟩
        · rw [find_keep hqt.ids hcv.1 (hkeep _ (findC_some hcv.1).1 (by rw [findC_id hcv.1]; exact hi))]
          exact hcv
    · have fin : ∃ o, some (((q.1, q.2.1, q.2.2.1, q.2.2.2, bk s), (0 : Int)) : GState × Int) = some o ∧ Keeps s o := by
        refine ⟨_, rfl, .inr ⟨rfl, ⟨hq, h.2.1, fun id hid => ?_⟩, by show s.2.2.1 ≤ q.2.2.1; omega⟩⟩
        have hid : usedL (bk s) id ≠ z3 := hid
        show (findC q.1 id).2 = true ∧ withinU (usedL (bk s) id) (findC q.1 id).1
        have hcv := h.2.2 id hid
        rw [find_keep hqt.ids hcv.1 (hkeep _ (findC_some hcv.1).1)]
        exact hcv
      have b1 : (d.1 == 2 && d.2.1 == 1) = false := by
        rw [Bool.eq_false_iff]; simp only [ne_eq, Bool.and_eq_true, beq_iff_eq]; exact fun hh => hno ⟨.inl hh.1, hh.2⟩
      have b2 : (d.1 == 3 && d.2.1 == 1) = false := by
        rw [Bool.eq_false_iff]; simp only [ne_eq, Bool.and_eq_true, beq_iff_eq]; exact fun hh => hno ⟨.inr hh.1, hh.2⟩
      rw [b1, b2]
      exact fin
end Go.Proofs.YthlhbnaloefncaaGreatDoor.Ex
namespace Go.Proofs.YthlhbnaloefncaaGreatDoor.Ex
open Go
set_option linter.unusedVariables false
set_option maxHeartbeats 0
noncomputable def feluccalaw21_StateTime_c : Code := Tryz.f8.body.getD .skip
def feluccalaw21_StateTime (k : Nat) : (GState × Int × Int) → Option (Bool) := fun (s, now, later) =>
  (feluccalaw21_small k ()).bind fun o_1 =>
    bif o_1 then
      (feluccalaw21_Few k s).bind fun o_3 =>
        bif o_3 then
          bif decide (later < now) then
            some (true)
          else
            (state_Right k s).bind fun o_6 =>
              bif o_6 then
                (state_Advance k (s, now)).bind fun o_8 =>
                  bif !decide (o_8.2 = 0) then
                    (state_Same k (o_8.1, s)).bind fun o_10 =>
                      bif o_10 then
                        some (true)
                      else
                        some (false)
                  else
                    (state_Advance k (o_8.1, later)).bind fun o_10 =>
                      (state_Advance k (s, later)).bind fun o_11 =>
                        bif decide (o_10.2 = o_11.2) then
                          bif !decide (o_10.2 = 0) then
                            some (true)
                          else
                            (contacts_Same k (o_10.1.1, o_11.1.1)).bind fun o_14 =>
                              bif o_14 then
                                (ledger_Same k (o_10.1.2.2.2.2, o_11.1.2.2.2.2)).bind fun o_16 =>
                                  bif o_16 then
                                    bif decide (o_10.1.2.2.1 = o_11.1.2.2.1) then
                                      some (true)
                                    else
                                      some (false)
                                  else
                                    some (false)
                              else
                                some (false)
                        else
                          some (false)
              else
                some (true)
        else
          some (true)
    else
      (feluccalaw21_Few k s).bind fun o_3 =>
        bif o_3 then
          bif decide (later < now) then
            some (false)
          else
            (state_Right k s).bind fun o_6 =>
              bif o_6 then
                (state_Advance k (s, now)).bind fun o_8 =>
                  bif !decide (o_8.2 = 0) then
                    some (false)
                  else
                    (state_Advance k (o_8.1, later)).bind fun o_10 =>
                      (state_Advance k (s, later)).bind fun o_11 =>
                        some (false)
              else
                some (false)
        else
          some (false)
noncomputable def feluccalaw21_StateTime_X : Cx Tryz.prog [.one (.sc (.bool))] := ⟨fun k => ⟨[feluccalaw21_small_e k, feluccalaw21_Few_e k, state_Right_e k, state_Same_e k, state_Advance_e k, contacts_Same_e k, ledger_Same_e k], [], [hkStr Tryz.prog]⟩, Tryz.f8.ntmps, Tryz.f8.results, []⟩
theorem feluccalaw21_StateTime_eq (k : Nat) (x : GState × Int × Int) : feluccalaw21_StateTime k x = runF feluccalaw21_StateTime_X k feluccalaw21_StateTime_c [.agg lGState, .one (.sc (.int .i64)), .one (.sc (.int .i64))] x := by kernel_rfl
noncomputable def feluccalaw21_StateTime_e (k : Nat) : Ent Tryz.prog := ⟨8, [.agg lGState, .one (.sc (.int .i64)), .one (.sc (.int .i64))], [.one (.sc (.bool))], feluccalaw21_StateTime k, calls_of (X := feluccalaw21_StateTime_X) (k := k) (c := feluccalaw21_StateTime_c) Tryz.func8 (by kernel_rfl) (by kernel_rfl) (by kernel_rfl) (LoopEqs.all (show LoopEqs feluccalaw21_StateTime_X feluccalaw21_StateTime_c feluccalaw21_StateTime_X.L 0 from trivial)) (fun x => feluccalaw21_StateTime_eq k x), fun _ _ => by kernel_rfl⟩
end Go.Proofs.YthlhbnaloefncaaGreatDoor.Ex
namespace Go.Proofs.YthlhbnaloefncaaGreatDoor.Ex
open Go
set_option linter.unusedVariables false
set_option linter.unusedSimpArgs false
theorem okS_1 {s : GState} (h : okvT kGState s) : ∀ c ∈ s.1, okvT kGContact c := by
  simp only [okvT] at h
  exact rows_ok h.1
theorem okS_2 {s : GState} (h : okvT kGState s) : ∀ r ∈ s.2.1, okvT kGRange r := by
  simp only [okvT] at h
  exact rows_ok h.2.1
theorem small21 (k : Nat) : feluccalaw21_small k () = some true := rfl
theorem mem_gone {now : Int} {cs : List GContact} {x : Int} : x ∈ sorted (goneC now cs) ↔ ∃ c ∈ cs, c.2.2.2.2.1 ≤ now ∧ c.1 = x := by
  rw [(sorted_perm _).mem_iff]
  unfold goneC
  simp only [List.mem_map, List.mem_filter, Bool.not_eq_true', decide_eq_false_iff_not]
  constructor
  · rintro ⟨c, ⟨h1, h2⟩, rfl⟩; exact ⟨c, h1, by omega, rfl⟩
  · rintro ⟨c, h1, h2, rfl⟩; exact ⟨c, ⟨h1, by omega⟩, rfl⟩
theorem drop_twice {now later : Int} (h : now ≤ later) (cs : List GContact) (l : List GBooked) : dropL (dropL l (sorted (goneC now cs))) (sorted (goneC later (leftC now cs))) = dropL l (sorted (goneC later cs)) := by
  unfold dropL
  rw [List.filter_filter]
  refine List.filter_congr fun b _ => ?_
  rw [← Bool.not_or, Bool.not_inj_iff, Bool.eq_iff_iff, Bool.or_eq_true, decide_eq_true_eq, decide_eq_true_eq, decide_eq_true_eq, mem_gone, mem_gone, mem_gone]
  constructor
  · rintro (⟨c, hc, h1, h2⟩ | ⟨c, hc, h1, h2⟩)
    · exact ⟨c, (List.mem_filter.1 hc).1, h1, h2⟩
    · exact ⟨c, hc, by omega, h2⟩
  · rintro ⟨c, hc, h1, h2⟩
    by_cases h3 : c.2.2.2.2.1 ≤ now
    · exact .inr ⟨c, hc, h3, h2⟩
    · exact .inl ⟨c, List.mem_filter.2 ⟨hc, decide_eq_true (by omega)⟩, h1, h2⟩
theorem StateTime_pure (s : GState) (g1 : ∀ c ∈ s.1, okvT kGContact c) (g2 : ∀ r ∈ s.2.1, okvT kGRange r) (now later : Int) : ∃ k, feluccalaw21_StateTime k (s, now, later) = some true := by
  refine ⟨40000, ?_⟩
  unfold feluccalaw21_StateTime
  simp only [small21, Few21_spec, Option.bind_some, cond_true]
  by_cases few : s.1.length ≤ 50 ∧ s.2.1.length ≤ 50 ∧ (bk s).length ≤ 50
  · rw [decide_eq_true few]
    simp only [cond_true]
    by_cases hlt : later < now
    · rw [decide_eq_true hlt]; rfl
    · rw [decide_eq_false hlt]
      obtain ⟨b, hb, hi⟩ := StateRight_spec s 40000 (by omega) (by omega) (by omega) (fun c hc => rng_of (g1 c hc)) (fun r hr => rngR_of (g2 r hr)) (by omega)
      simp only [cond_false, hb, Option.bind_some]
      cases b with
      | false => rfl
      | true =>
        have h := hi.1 rfl
        simp only [cond_true, Advance21_spec h now 40000 (by omega), Advance21_spec h later 40000 (by omega), Option.bind_some]
        have hk := adv_keeps h now
        unfold advA at hk ⊢
        by_cases hc : now < s.2.2.1 ∨ 2147483647 < now
        · simp only [if_pos hc]
          rw [show decide ((7 : Int) = 0) = false from rfl]
          simp only [Bool.not_false, cond_true, h.same s 40000 (by omega), decide_true, Option.bind_some]
        · simp only [if_neg hc] at hk ⊢
          rcases hk with ⟨hk, _⟩ | ⟨_, ha, _⟩
          · exact absurd rfl hk
          have hl := ha.len
          have hadv := Advance21_spec ha later 40000 (by omega)
          unfold advA at hadv
          have ec : (stS (advP (pl s) now) (dropL (bk s) (sorted (goneC now s.1)))).2.2.1 = now := rfl
          rw [ec] at hadv
          simp only [decide_true, Bool.not_true, cond_false]
          have hadv' : state_Advance 40000 (stS (advP (pl s) now) (dropL (bk s) (sorted (goneC now s.1))), later) = _ := hadv
          by_cases h7 : 2147483647 < later
          · rw [if_pos (.inr h7)] at hadv'
            simp only [hadv', Option.bind_some, if_pos (show later < s.2.2.1 ∨ 2147483647 < later from .inr h7), decide_true, cond_true]
            rfl
          · rw [if_neg (by omega)] at hadv'
            simp only [hadv', Option.bind_some, if_neg (show ¬ (later < s.2.2.1 ∨ 2147483647 < later) by omega), decide_true, Bool.not_true, cond_true, cond_false]
            have e1 : (stS (advP (pl (stS (advP (pl s) now) (dropL (bk s) (sorted (goneC now s.1))))) later) (dropL (bk (stS (advP (pl s) now) (dropL (bk s) (sorted (goneC now s.1))))) (sorted (goneC later (stS (advP (pl s) now) (dropL (bk s) (sorted (goneC now s.1)))).1)))).1 = leftC later (leftC now s.1) := rfl
            have e2 : (stS (advP (pl s) later) (dropL (bk s) (sorted (goneC later s.1)))).1 = leftC later s.1 := rfl
            have e3 : (stS (advP (pl (stS (advP (pl s) now) (dropL (bk s) (sorted (goneC now s.1))))) later) (dropL (bk (stS (advP (pl s) now) (dropL (bk s) (sorted (goneC now s.1))))) (sorted (goneC later (stS (advP (pl s) now) (dropL (bk s) (sorted (goneC now s.1)))).1)))).2.2.2.2 = dropL (dropL (bk s) (sorted (goneC now s.1))) (sorted (goneC later (leftC now s.1))) := rfl
            have e4 : (stS (advP (pl s) later) (dropL (bk s) (sorted (goneC later s.1)))).2.2.2.2 = dropL (bk s) (sorted (goneC later s.1)) := rfl
            have e5 : (stS (advP (pl (stS (advP (pl s) now) (dropL (bk s) (sorted (goneC now s.1))))) later) (dropL (bk (stS (advP (pl s) now) (dropL (bk s) (sorted (goneC now s.1))))) (sorted (goneC later (stS (advP (pl s) now) (dropL (bk s) (sorted (goneC now s.1)))).1)))).2.2.1 = later := rfl
            have e6 : (stS (advP (pl s) later) (dropL (bk s) (sorted (goneC later s.1)))).2.2.1 = later := rfl
            rw [e1, e2, e3, e4, e5, e6, left_left (by omega), drop_twice (by omega)]
            have l1 := leftC_len later s.1
            have l2 := drop_len (bk s) (sorted (goneC later s.1))
            simp only [Same_spec _ _ 40000 (show (leftC later s.1).length ≤ 1000000000 by omega) (by omega), SameB_spec _ _ 40000 (show (dropL (bk s) (sorted (goneC later s.1))).length ≤ 1000000000 by omega) (by omega), Option.bind_some, decide_true, cond_true]
  · rw [decide_eq_false few]; rfl
end Go.Proofs.YthlhbnaloefncaaGreatDoor.Ex
namespace Go.Proofs.YthlhbnaloefncaaGreatDoor.Ex
open Go Go.RowKit Go.WideShapes
set_option linter.unusedVariables false
section
variable {P : Program} {kd : IntKind}
theorem tup_one {W : World} {n : Nat} {H : Type} {enc : TypeId × Value → H} {e : TypeId} (he : P.underlying e = some (.int kd)) : ∀ (m : Nat) (cs : List Value), cs.length = m → (∀ i, i < m → ∃ y, DataW.trod enc P W 0 (fun _ => true) true n e ((cs.drop i).take 1) = some y) →
    ∃ y : Tup (List.replicate m (SK.int kd)), TupIs (fun b => b < W.heap.size) W (List.replicate m (SK.int kd)) y cs ∧ okvT (List.replicate m (SK.int kd)) y
  | 0, cs, hl, _ => by
    have : cs = [] := List.length_eq_zero_iff.1 hl
    subst this
    exact ⟨(), by simp [TupIs], by simp [okvT]⟩
  | m + 1, cs, hl, h => by
    obtain ⟨y, hy⟩ := h 0 (by omega)
    have a1 := OpK.t (OpK.int he) enc W n _ y hy
    have a2 := tup_one he m (cs.drop 1) (by rw [List.length_drop]; omega) (fun i hi => by
      obtain ⟨z, hz⟩ := h (i + 1) (by omega)
      exact ⟨z, by rw [List.drop_drop, show 1 + i = i + 1 by omega]; exact hz⟩)
    have e1 : cs = (cs.drop 0).take 1 ++ cs.drop 1 := by rw [List.drop_zero, List.take_append_drop]
    have := tup_app (ok := fun b => b < W.heap.size) (W := W) (a := [SK.int kd]) (b := List.replicate m (SK.int kd)) a1 a2
    rw [← e1] at this
    exact this
theorem OpT.arr {t e : TypeId} {n : Nat} (ht : P.underlying t = some (.array n e)) (he : P.underlying e = some (.int kd)) (hc : P.cellsOf e = 1) (hC : P.cellsOf t = n) : OpT P t (List.replicate n (SK.int kd)) := by
  intro H enc W fuel cs x hx
  obtain ⟨xs, m, _, rfl, hl, hlen, hf⟩ := DataW.trod_array ht hx
  refine tup_one (enc := enc) (n := m) he n cs (by rw [hl, hC]) (fun i hi => ?_)
  have h1 := hf i hi
  rw [hc, Nat.mul_one, List.getElem?_eq_getElem (by omega)] at h1
  exact ⟨_, h1⟩
end
end Go.Proofs.YthlhbnaloefncaaGreatDoor.Ex
namespace Go.Proofs.YthlhbnaloefncaaGreatDoor.Ex
open Go
set_option linter.unusedVariables false
set_option maxHeartbeats 0
noncomputable def feluccalaw21_StateTurns_c : Code := Tryz.f9.body.getD .skip
def feluccalaw21_StateTurns (k : Nat) : (GState × (List Int) × Int × Int × Int) → Option (Bool) := fun (s, ids, k2, class3, size) =>
  (feluccalaw21_small k ()).bind fun o_1 =>
    bif o_1 then
      (feluccalaw21_Few k s).bind fun o_3 =>
        bif o_3 then
          bif decide (50 < Int.ofNat (List.length ids)) then
            some (true)
          else
            bif decide (k2 < 0) then
              some (true)
            else
              bif decide (Int.ofNat (List.length ids) < k2) then
                some (true)
              else
                (state_Right k s).bind fun o_8 =>
                  bif o_8 then
                    bif decide (0 ≤ k2) then
                      bif decide (k2 ≤ Int.ofNat (List.length ids)) then
                        bif decide ((0 + List.length (List.drop (Int.toNat k2) ids)) * 8 ≤ 140737488355328) then
                          bif decide (0 ≤ k2) then
                            bif decide (k2 ≤ Int.ofNat (List.length ids)) then
                              bif decide ((List.length (List.drop (Int.toNat k2) ids) + List.length (List.take (Int.toNat k2) ids)) * 8 ≤ 140737488355328) then
                                (state_Book k (s, ids, class3, size)).bind fun o_16 =>
                                  (state_Book k (s, List.drop (Int.toNat k2) ids ++ List.take (Int.toNat k2) ids, class3, size)).bind fun o_17 =>
                                    (state_Release k (s, ids, class3, size)).bind fun o_18 =>
                                      (state_Release k (s, List.drop (Int.toNat k2) ids ++ List.take (Int.toNat k2) ids, class3, size)).bind fun o_19 =>
                                        bif decide (o_16.2 = o_17.2) then
                                          (state_Same k (o_16.1, o_17.1)).bind fun o_21 =>
                                            bif o_21 then
                                              bif decide (o_18.2 = o_19.2) then
                                                (state_Same k (o_18.1, o_19.1)).bind fun o_24 =>
                                                  bif o_24 then
                                                    some (true)
                                                  else
                                                    some (false)
                                              else
                                                some (false)
                                            else
                                              some (false)
                                        else
                                          some (false)
                              else
                                none
                            else
                              none
                          else
                            none
                        else
                          none
                      else
                        none
                    else
                      none
                  else
                    some (true)
        else
          some (true)
    else
      (feluccalaw21_Few k s).bind fun o_3 =>
        bif o_3 then
          bif decide (50 < Int.ofNat (List.length ids)) then
            some (false)
          else
            bif decide (k2 < 0) then
              some (false)
            else
              bif decide (Int.ofNat (List.length ids) < k2) then
                some (false)
              else
                (state_Right k s).bind fun o_8 =>
                  bif o_8 then
                    bif decide (0 ≤ k2) then
                      bif decide (k2 ≤ Int.ofNat (List.length ids)) then
                        bif decide ((0 + List.length (List.drop (Int.toNat k2) ids)) * 8 ≤ 140737488355328) then
                          bif decide (0 ≤ k2) then
                            bif decide (k2 ≤ Int.ofNat (List.length ids)) then
                              bif decide ((List.length (List.drop (Int.toNat k2) ids) + List.length (List.take (Int.toNat k2) ids)) * 8 ≤ 140737488355328) then
                                (state_Book k (s, ids, class3, size)).bind fun o_16 =>
                                  (state_Book k (s, List.drop (Int.toNat k2) ids ++ List.take (Int.toNat k2) ids, class3, size)).bind fun o_17 =>
                                    (state_Release k (s, ids, class3, size)).bind fun o_18 =>
                                      (state_Release k (s, List.drop (Int.toNat k2) ids ++ List.take (Int.toNat k2) ids, class3, size)).bind fun o_19 =>
                                        some (false)
                              else
                                none
                            else
                              none
                          else
                            none
                        else
                          none
                      else
                        none
                    else
                      none
                  else
                    some (false)
        else
          some (false)
noncomputable def feluccalaw21_StateTurns_X : Cx Tryz.prog [.one (.sc (.bool))] := ⟨fun k => ⟨[feluccalaw21_small_e k, feluccalaw21_Few_e k, state_Right_e k, state_Same_e k, state_Book_e k, state_Release_e k], [], [hkStr Tryz.prog]⟩, Tryz.f9.ntmps, Tryz.f9.results, []⟩
theorem feluccalaw21_StateTurns_eq (k : Nat) (x : GState × (List Int) × Int × Int × Int) : feluccalaw21_StateTurns k x = runF feluccalaw21_StateTurns_X k feluccalaw21_StateTurns_c [.agg lGState, .one (.row 3 [.int .i64]), .one (.sc (.int .i64)), .one (.sc (.int .i64)), .one (.sc (.int .i64))] x := by kernel_rfl
noncomputable def feluccalaw21_StateTurns_e (k : Nat) : Ent Tryz.prog := ⟨9, [.agg lGState, .one (.row 3 [.int .i64]), .one (.sc (.int .i64)), .one (.sc (.int .i64)), .one (.sc (.int .i64))], [.one (.sc (.bool))], feluccalaw21_StateTurns k, calls_of (X := feluccalaw21_StateTurns_X) (k := k) (c := feluccalaw21_StateTurns_c) Tryz.func9 (by kernel_rfl) (by kernel_rfl) (by kernel_rfl) (LoopEqs.all (show LoopEqs feluccalaw21_StateTurns_X feluccalaw21_StateTurns_c feluccalaw21_StateTurns_X.L 0 from trivial)) (fun x => feluccalaw21_StateTurns_eq k x), fun _ _ => by kernel_rfl⟩
end Go.Proofs.YthlhbnaloefncaaGreatDoor.Ex
namespace Go.Proofs.YthlhbnaloefncaaGreatDoor.Ex
open Go
set_option linter.unusedVariables false
set_option linter.unusedSimpArgs false
theorem askE_perm (cs : List GContact) {a b : List Int} (h : a.Perm b) (n size : Int) : askE cs a n size = askE cs b n size := by
  have h1 : goodA a n size ↔ goodA b n size := by
    unfold goodA
    rw [h.nodup_iff]
    refine and_congr (not_congr ⟨fun e => ?_, fun e => ?_⟩) Iff.rfl
    · subst e; exact List.nil_perm.1 h
    · subst e; exact List.perm_nil.1 h
  have h2 : (a.any fun id => !(findC cs id).2) = (b.any fun id => !(findC cs id).2) := by
    rw [Bool.eq_iff_iff, List.any_eq_true, List.any_eq_true]
    exact ⟨fun ⟨x, hx, hp⟩ => ⟨x, h.mem_iff.1 hx, hp⟩, fun ⟨x, hx, hp⟩ => ⟨x, h.mem_iff.2 hx, hp⟩⟩
  unfold askE
  rw [h2]
  by_cases g : goodA a n size
  · rw [if_neg (fun x : ¬ goodA a n size => x g), if_neg (fun x : ¬ goodA b n size => x (h1.1 g))]
  · rw [if_pos g, if_pos (fun x => g (h1.2 x) : ¬ goodA b n size)]
theorem each_perm {s : GState} (h : RightS s) {okf : Int → T48 → Bool} {f : T48 → T48} {a b : List Int} (hp : a.Perm b) (n size : Int) (h1 : ∀ id u, okU u → okf id u = true → okU (f u)) : eachA s a n size okf f = eachA s b n size okf f := by
  unfold eachA
  rw [askE_perm s.1 hp]
  by_cases he : askE s.1 b n size = 0
  · rw [if_neg (by simp [he]), if_neg (by simp [he])]
    obtain ⟨hg, hf⟩ := askE_0 he
    have na : a.Nodup := hp.nodup_iff.2 hg.2.1
    have e1 : runOk okf f (bk s) a = runOk okf f (bk s) b := by
      rw [runOk_all okf f h.2.1.2 na, runOk_all okf f h.2.1.2 hg.2.1, Bool.eq_iff_iff, List.all_eq_true, List.all_eq_true]
      exact ⟨fun x y hy => x y (hp.mem_iff.2 hy), fun x y hy => x y (hp.mem_iff.1 hy)⟩
    rw [e1]
    cases ho : runOk okf f (bk s) b with
    | false => rfl
    | true =>
      have hr : ∀ id ∈ b, 1 ≤ id ∧ id ≤ 1048576 := fun id hid => found_rng h (hf id hid)
      have e2 : runL f (bk s) a = runL f (bk s) b := by
        refine right_ext (run_right (okf := okf) f h.2.1 na (fun id hid => hr id (hp.mem_iff.1 hid)) h1 (by rw [e1, ho])) (run_right (okf := okf) f h.2.1 hg.2.1 hr h1 ho) fun id => ?_
        rw [usedL_run f h.2.1.2 na, usedL_run f h.2.1.2 hg.2.1]
        by_cases hm : id ∈ b
        · rw [if_pos hm, if_pos (hp.mem_iff.2 hm)]
        · rw [if_neg hm, if_neg (fun x => hm (hp.mem_iff.1 x))]
      rw [e2]
  · rw [if_pos he, if_pos he]
theorem keeps_len {s : GState} (h : RightS s) {o : GState × Int} (hk : Keeps s o) : o.1.1.length ≤ 5000 ∧ o.1.2.1.length ≤ 5000 ∧ (bk o.1).length ≤ 5000 := by
  rcases hk with ⟨_, e⟩ | ⟨_, e, _⟩
  · rw [e]; have := h.len; omega
  · have := e.len; omega
theorem StateTurns_pure (s : GState) (g1 : ∀ c ∈ s.1, okvT kGContact c) (g2 : ∀ r ∈ s.2.1, okvT kGRange r) (ids : List Int) (k2 n size : Int) : ∃ k, feluccalaw21_StateTurns k (s, ids, k2, n, size) = some true := by
  refine ⟨40000, ?_⟩
  unfold feluccalaw21_StateTurns
  simp only [small21, Few21_spec, Option.bind_some, cond_true]
  by_cases few : s.1.length ≤ 50 ∧ s.2.1.length ≤ 50 ∧ (bk s).length ≤ 50
  · rw [decide_eq_true few]
    simp only [cond_true]
    by_cases hi : ids.length ≤ 50
    · have c1 : decide (50 < Int.ofNat ids.length) = false := decide_eq_false (by show ¬ (50 : Int) < (ids.length : Int); omega)
      rw [c1]
      by_cases h0 : k2 < 0
      · rw [decide_eq_true h0]; rfl
      rw [decide_eq_false h0]
      by_cases h1 : Int.ofNat ids.length < k2
      · rw [decide_eq_true h1]; rfl
      have h1' : k2 ≤ (ids.length : Int) := Int.not_lt.1 h1
      rw [decide_eq_false h1]
      obtain ⟨b, hb, hr⟩ := StateRight_spec s 40000 (by omega) (by omega) (by omega) (fun c hc => rng_of (g1 c hc)) (fun r hr => rngR_of (g2 r hr)) (by omega)
      simp only [cond_false, hb, Option.bind_some]
      cases b with
      | false => rfl
      | true =>
        have h := hr.1 rfl
        have hp : (List.drop (Int.toNat k2) ids ++ List.take (Int.toNat k2) ids).Perm ids := by
          have := List.perm_append_comm (l₁ := ids.drop k2.toNat) (l₂ := ids.take k2.toNat)
          rwa [List.take_append_drop] at this
        have hl : (List.drop (Int.toNat k2) ids ++ List.take (Int.toNat k2) ids).length ≤ 50 := by rw [hp.length_eq]; exact hi
        have d1 : decide ((0 + (List.drop (Int.toNat k2) ids).length) * 8 ≤ 140737488355328) = true := decide_eq_true (by rw [List.length_drop]; omega)
        have d2 : decide (((List.drop (Int.toNat k2) ids).length + (List.take (Int.toNat k2) ids).length) * 8 ≤ 140737488355328) = true := decide_eq_true (by rw [List.length_append] at hl; omega)
        have d3 : decide (k2 ≤ Int.ofNat ids.length) = true := decide_eq_true h1'
        simp only [cond_true, d1, d2, d3, decide_eq_true (show 0 ≤ k2 by omega), Book21_spec h _ n size hi 40000 (by omega), Book21_spec h _ n size hl 40000 (by omega), Release21_spec h _ n size hi 40000 (by omega), Release21_spec h _ n size hl 40000 (by omega), Option.bind_some,
          each_perm h hp n size (okf := bkOk s.1 n size) (f := bkF n size) (fun id u hu ho => book_ok hu ho), each_perm h hp n size (okf := rlOk n size) (f := rlF n size) (fun id u hu ho => free_ok hu ho), decide_true]
        obtain ⟨l1, l2, l3⟩ := keeps_len h (book_keeps h ids n size)
        obtain ⟨m1, m2, m3⟩ := keeps_len h (free_keeps h ids n size)
        simp only [StateSame_spec _ _ 40000 l1 l2 l3 (by omega), StateSame_spec _ _ 40000 m1 m2 m3 (by omega), Option.bind_some, decide_true, cond_true]
    · have c1 : decide (50 < Int.ofNat ids.length) = true := decide_eq_true (by show (50 : Int) < (ids.length : Int); omega)
      rw [c1]; rfl
  · rw [decide_eq_false few]; rfl
end Go.Proofs.YthlhbnaloefncaaGreatDoor.Ex
namespace Go.Proofs.YthlhbnaloefncaaGreatDoor.Ex
open Go
set_option linter.unusedVariables false
set_option maxHeartbeats 0
noncomputable def feluccalaw21_StateBack_c : Code := Tryz.f5.body.getD .skip
def feluccalaw21_StateBack_L0 : Nat → ((List Int) × Int × Int × GState × Bool × GState × Int) → Option (((List Int) × Int × Int × GState × Bool × GState) ⊕ (Bool))
  | 0, _ => none
  | k + 1, (ids, class2, size, s, head, a, i) =>
  bif decide (i < Int.ofNat (List.length ids)) then
    bif decide (0 ≤ i) then
      bif decide (i < Int.ofNat (List.length ids)) then
        (contacts_Find k (s.1, List.getD ids (Int.toNat i) 0)).bind fun o_4 =>
          bif o_4.2 then
            bif decide (class2 < 0) then
              some (Sum.inr false)
            else
              bif decide (2 < class2) then
                some (Sum.inr false)
              else
                (ledger_Room k (s.2.2.2.2, o_4.1, class2)).bind fun o_8 =>
                  (ledger_Room k (a.2.2.2.2, o_4.1, class2)).bind fun o_9 =>
                    bif !decide (w64 (o_8 - size) = o_9) then
                      some (Sum.inr false)
                    else
                      feluccalaw21_StateBack_L0 k (ids, class2, size, s, head, a, w64 (i + 1))
          else
            some (Sum.inr false)
      else
        none
    else
      none
  else
    some (Sum.inl (ids, class2, size, s, head, a))
def feluccalaw21_StateBack (k : Nat) : (GState × (List Int) × Int × Int) → Option (Bool) := fun (s, ids, class2, size) =>
  (feluccalaw21_small k ()).bind fun o_1 =>
    bif o_1 then
      (feluccalaw21_Few k s).bind fun o_3 =>
        bif o_3 then
          bif decide (50 < Int.ofNat (List.length ids)) then
            some (true)
          else
            (state_Right k s).bind fun o_6 =>
              bif o_6 then
                (state_Book k (s, ids, class2, size)).bind fun o_8 =>
                  bif !decide (o_8.2 = 0) then
                    (state_Same k (o_8.1, s)).bind fun o_10 =>
                      bif o_10 then
                        some (true)
                      else
                        some (false)
                  else
                    (feluccalaw21_StateBack_L0 k (ids, class2, size, s, true, o_8.1, 0)).bind fun o_10 =>
                      match o_10 with
                      | .inl o_11 =>
                        (state_Release k (o_11.2.2.2.2.2, o_11.1, o_11.2.1, o_11.2.2.1)).bind fun o_12 =>
                          bif o_11.2.2.2.2.1 then
                            bif decide (o_12.2 = 0) then
                              (state_Same k (o_12.1, o_11.2.2.2.1)).bind fun o_15 =>
                                bif o_15 then
                                  (plan_Same k ((o_11.2.2.2.2.2.1, o_11.2.2.2.2.2.2.1, o_11.2.2.2.2.2.2.2.1, o_11.2.2.2.2.2.2.2.2.1), o_11.2.2.2.1.1, o_11.2.2.2.1.2.1, o_11.2.2.2.1.2.2.1, o_11.2.2.2.1.2.2.2.1)).bind fun o_17 =>
                                    bif o_17 then
                                      some (true)
                                    else
                                      some (false)
                                else
                                  some (false)
                            else
                              some (false)
                          else
                            some (false)
                      | .inr o_11 =>
                        some (o_11)
              else
                some (true)
        else
          some (true)
    else
      (feluccalaw21_Few k s).bind fun o_3 =>
        bif o_3 then
          bif decide (50 < Int.ofNat (List.length ids)) then
            some (false)
          else
            (state_Right k s).bind fun o_6 =>
              bif o_6 then
                (state_Book k (s, ids, class2, size)).bind fun o_8 =>
                  bif !decide (o_8.2 = 0) then
                    some (false)
                  else
                    (feluccalaw21_StateBack_L0 k (ids, class2, size, s, false, o_8.1, 0)).bind fun o_10 =>
                      match o_10 with
                      | .inl o_11 =>
                        (state_Release k (o_11.2.2.2.2.2, o_11.1, o_11.2.1, o_11.2.2.1)).bind fun o_12 =>
                          bif o_11.2.2.2.2.1 then
                            bif decide (o_12.2 = 0) then
                              (state_Same k (o_12.1, o_11.2.2.2.1)).bind fun o_15 =>
                                bif o_15 then
                                  (plan_Same k ((o_11.2.2.2.2.2.1, o_11.2.2.2.2.2.2.1, o_11.2.2.2.2.2.2.2.1, o_11.2.2.2.2.2.2.2.2.1), o_11.2.2.2.1.1, o_11.2.2.2.1.2.1, o_11.2.2.2.1.2.2.1, o_11.2.2.2.1.2.2.2.1)).bind fun o_17 =>
                                    bif o_17 then
                                      some (true)
                                    else
                                      some (false)
                                else
                                  some (false)
                            else
                              some (false)
                          else
                            some (false)
                      | .inr o_11 =>
                        some (o_11)
              else
                some (false)
        else
          some (false)
noncomputable def feluccalaw21_StateBack_X : Cx Tryz.prog [.one (.sc (.bool))] := ⟨fun k => ⟨[feluccalaw21_small_e k, feluccalaw21_Few_e k, state_Right_e k, state_Same_e k, state_Book_e k, contacts_Find_e k, ledger_Room_e k, state_Release_e k, plan_Same_e k], [], [hkStr Tryz.prog]⟩, Tryz.f5.ntmps, Tryz.f5.results, [some ⟨0, [(1, .one (.ro [.int .i64])), (2, .one (.sc (.int .i64))), (3, .one (.sc (.int .i64))), (4, .box 28 trGState), (9, .one (.sc (.bool))), (11, .box 28 toGState), (13, .one (.sc (.int .i64)))], [(1, .one (.ro [.int .i64])), (2, .one (.sc (.int .i64))), (3, .one (.sc (.int .i64))), (4, .box 28 trGState), (9, .one (.sc (.bool))), (11, .box 28 toGState)], feluccalaw21_StateBack_L0⟩]⟩
theorem feluccalaw21_StateBack_L0_eq (k : Nat) (x : (List Int) × Int × Int × GState × Bool × GState × Int) : feluccalaw21_StateBack_L0 (k + 1) x = roundF feluccalaw21_StateBack_X k ⟨0, [(1, .one (.ro [.int .i64])), (2, .one (.sc (.int .i64))), (3, .one (.sc (.int .i64))), (4, .box 28 trGState), (9, .one (.sc (.bool))), (11, .box 28 toGState), (13, .one (.sc (.int .i64)))], [(1, .one (.ro [.int .i64])), (2, .one (.sc (.int .i64))), (3, .one (.sc (.int .i64))), (4, .box 28 trGState), (9, .one (.sc (.bool))), (11, .box 28 toGState)], feluccalaw21_StateBack_L0⟩ 0 (lp feluccalaw21_StateBack_c 0) x := by kernel_rfl
theorem feluccalaw21_StateBack_eq (k : Nat) (x : GState × (List Int) × Int × Int) : feluccalaw21_StateBack k x = runF feluccalaw21_StateBack_X k feluccalaw21_StateBack_c [.agg lGState, .one (.row 3 [.int .i64]), .one (.sc (.int .i64)), .one (.sc (.int .i64))] x := by kernel_rfl
noncomputable def feluccalaw21_StateBack_e (k : Nat) : Ent Tryz.prog := ⟨5, [.agg lGState, .one (.row 3 [.int .i64]), .one (.sc (.int .i64)), .one (.sc (.int .i64))], [.one (.sc (.bool))], feluccalaw21_StateBack k, calls_of (X := feluccalaw21_StateBack_X) (k := k) (c := feluccalaw21_StateBack_c) Tryz.func5 (by kernel_rfl) (by kernel_rfl) (by kernel_rfl) (LoopEqs.all (show LoopEqs feluccalaw21_StateBack_X feluccalaw21_StateBack_c feluccalaw21_StateBack_X.L 0 from ⟨⟨fun _ => rfl, fun k x => feluccalaw21_StateBack_L0_eq k x⟩, trivial⟩)) (fun x => feluccalaw21_StateBack_eq k x), fun _ _ => by kernel_rfl⟩
end Go.Proofs.YthlhbnaloefncaaGreatDoor.Ex
namespace Go.Proofs.YthlhbnaloefncaaGreatDoor.Ex
open Go
set_option linter.unusedVariables false
set_option linter.unusedSimpArgs false
theorem room_add {u : T48} {c : GContact} (hu : okU u) {n size : Int} (h : bookB u c n size = true) : roomL (addU u n size) c n = roomL u c n - size ∧ 0 ≤ size ∧ size ≤ roomL u c n := by
  unfold bookB at h
  simp only [Bool.and_eq_true, decide_eq_true_eq] at h
  obtain ⟨_, h1, h2, h3⟩ := h
  refine ⟨?_, h2, h3⟩
  have hv := vol_62 c
  obtain ⟨u1, u2, u3⟩ := hu
  unfold roomL at h3 ⊢
  rw [if_pos h1] at h3 ⊢
  rw [if_pos h1]
  unfold In62 at *
  rcases cls_cases h1 with rfl | rfl | rfl
  · unfold backL satB addU at *; simp only [if_true] at h3 ⊢; omega
  · unfold backL satB addU at *; simp only [show ¬ (1 : Int) = 0 by omega, if_false, if_true] at h3 ⊢; omega
  · unfold backL satB addU at *; simp only [show ¬ (2 : Int) = 0 by omega, show ¬ (2 : Int) = 1 by omega, if_false] at h3 ⊢; omega
theorem add_back {u : T48} (hu : okU u) {c : GContact} {n size : Int} (h : bookB u c n size = true) : freeB (addU u n size) n size = true ∧ addU (addU u n size) n (-size) = u := by
  unfold bookB at h
  simp only [Bool.and_eq_true, decide_eq_true_eq] at h
  obtain ⟨_, h1, h2, h3⟩ := h
  obtain ⟨u1, u2, u3⟩ := hu
  obtain ⟨a, b, d⟩ := u
  unfold In62 at *
  unfold freeB getU addU
  simp only [Bool.and_eq_true, decide_eq_true_eq]
  rcases cls_cases h1 with rfl | rfl | rfl
  · simp only [if_true] at *
    exact ⟨⟨h1, h2, by omega⟩, by rw [Int.add_neg_cancel_right]⟩
  · simp only [show ¬ (1 : Int) = 0 by omega, if_false, if_true] at *
    exact ⟨⟨h1, h2, by omega⟩, by rw [Int.add_neg_cancel_right]⟩
  · simp only [show ¬ (2 : Int) = 0 by omega, show ¬ (2 : Int) = 1 by omega, if_false] at *
    exact ⟨⟨h1, h2, by omega⟩, by rw [Int.add_neg_cancel_right]⟩
theorem room_62 {u : T48} (hu : okU u) (c : GContact) (n : Int) : In62 (roomL u c n) := by
  have hv := vol_62 c
  have hb := back_62 hu n
  unfold roomL
  unfold In62 at *
  split <;> omega
theorem Back_L0 (s a : GState) (ids : List Int) (n size : Int) (h : RightS s) (ha : RightL (bk a)) (hla : (bk a).length ≤ 5000) (hl : ids.length ≤ 50) (hn : clsB n = true) (hf : ∀ id ∈ ids, (findC s.1 id).2 = true ∧ bookB (usedL (bk s) id) (findC s.1 id).1 n size = true ∧ usedL (bk a) id = addU (usedL (bk s) id) n size) : ∀ (m i k : Nat), ids.length - i = m → m + 20100 < k → i ≤ ids.length →
    feluccalaw21_StateBack_L0 k (ids, n, size, s, true, a, (i : Int)) = some (.inl (ids, n, size, s, true, a))
  | 0, i, k + 1, hm, hk, hi => by
    simp only [feluccalaw21_StateBack_L0]
    rw [i_lt, decide_eq_false (by omega)]
    rfl
  | m + 1, i, k + 1, hm, hk, hi => by
    have hlt : i < ids.length := by omega
    have hmem : ids.getD i 0 ∈ ids := by rw [List.getD_eq_getElem?_getD, List.getElem?_eq_getElem hlt]; exact List.getElem_mem hlt
    obtain ⟨h1, h2, h3⟩ := hf _ hmem
    have hlen := h.len
    have hid := findC_id h1
    have hr := find_rng h.t.rng (ids.getD i 0)
    have r1 := Room_spec (bk s) (findC s.1 (ids.getD i 0)).1 n k (by omega) h.2.1 hr (by omega)
    have r2 := Room_spec (bk a) (findC s.1 (ids.getD i 0)).1 n k (by omega) ha hr (by omega)
    rw [hid] at r1 r2
    obtain ⟨e1, e2, e3⟩ := room_add (usedL_ok h.2.1 (ids.getD i 0)) h2
    have e4 := room_62 (usedL_ok h.2.1 (ids.getD i 0)) (findC s.1 (ids.getD i 0)).1 n
    unfold In62 at e4
    have hc := cls_cases hn
    simp only [feluccalaw21_StateBack_L0]
    rw [i_lt, decide_eq_true hlt, decide_eq_true (Int.natCast_nonneg i), Int.toNat_natCast]
    simp only [cond_true, contacts_Find_spec s.1 _ k (by omega) (by omega), Option.bind_some, h1, r1, r2, decide_eq_false (show ¬ n < 0 by omega), decide_eq_false (show ¬ 2 < n by omega), cond_false, h3, e1]
    rw [w64_id (by omega) (by omega), decide_eq_true rfl, w64_succ (by omega)]
    exact Back_L0 s a ids n size h ha hla hl hn hf m (i + 1) k (by omega) (by omega) (by omega)
theorem StateBack_pure (s : GState) (g1 : ∀ c ∈ s.1, okvT kGContact c) (g2 : ∀ r ∈ s.2.1, okvT kGRange r) (ids : List Int) (n size : Int) : ∃ k, feluccalaw21_StateBack k (s, ids, n, size) = some true := by
  refine ⟨40000, ?_⟩
  unfold feluccalaw21_StateBack
  simp only [small21, Few21_spec, Option.bind_some, cond_true]
  by_cases few : s.1.length ≤ 50 ∧ s.2.1.length ≤ 50 ∧ (bk s).length ≤ 50
  · rw [decide_eq_true few]
    simp only [cond_true]
    by_cases hi : ids.length ≤ 50
    · have c1 : decide (50 < Int.ofNat ids.length) = false := decide_eq_false (by show ¬ (50 : Int) < (ids.length : Int); omega)
      rw [c1]
      obtain ⟨b, hb, hr⟩ := StateRight_spec s 40000 (by omega) (by omega) (by omega) (fun c hc => rng_of (g1 c hc)) (fun r hr => rngR_of (g2 r hr)) (by omega)
      simp only [cond_false, hb, Option.bind_some]
      cases b with
      | false => rfl
      | true =>
        have h := hr.1 rfl
        simp only [cond_true, Book21_spec h ids n size hi 40000 (by omega), Option.bind_some]
        have hk := book_keeps h ids n size
        by_cases he : askE s.1 ids n size = 0
        · obtain ⟨hg, hf⟩ := askE_0 he
          cases ho : runOk (bkOk s.1 n size) (bkF n size) (bk s) ids with
          | false =>
            have e : eachA s ids n size (bkOk s.1 n size) (bkF n size) = (s, 8) := by
              unfold eachA
              rw [if_neg (by simp [he]), ho]; rfl
            rw [e]
            simp only [h.same s 40000 (by omega), decide_true, Option.bind_some]
            rfl
          | true =>
            have e : eachA s ids n size (bkOk s.1 n size) (bkF n size) = (stS (pl s) (runL (bkF n size) (bk s) ids), 0) := by
              unfold eachA
              rw [if_neg (by simp [he]), ho]; rfl
            rw [e] at hk ⊢
            rcases hk with ⟨hk, _⟩ | ⟨_, ha, _⟩
            · exact absurd rfl hk
            have ha : RightS (stS (pl s) (runL (bkF n size) (bk s) ids)) := ha
            have ho' := ho
            rw [runOk_all _ _ h.2.1.2 hg.2.1] at ho'
            have hall : ∀ id ∈ ids, bookB (usedL (bk s) id) (findC s.1 id).1 n size = true := fun id hid => List.all_eq_true.1 ho' id hid
            have hus : ∀ id ∈ ids, usedL (runL (bkF n size) (bk s) ids) id = addU (usedL (bk s) id) n size := fun id hid => by rw [usedL_run _ h.2.1.2 hg.2.1, if_pos hid]; rfl
            have hla := ha.len
            have hL := Back_L0 s (stS (pl s) (runL (bkF n size) (bk s) ids)) ids n size h ha.2.1 (by omega) hi hg.2.2.1 (fun id hid => ⟨hf id hid, hall id hid, hus id hid⟩) ids.length 0 40000 (by omega) (by omega) (by omega)
            rw [Int.natCast_zero] at hL
            have hrel := Release21_spec ha ids n size hi 40000 (by omega)
            have e2 : eachA (stS (pl s) (runL (bkF n size) (bk s) ids)) ids n size (rlOk n size) (rlF n size) = (s, 0) := by
              have ha1 : askE (stS (pl s) (runL (bkF n size) (bk s) ids)).1 ids n size = 0 := he
              have hb1 : bk (stS (pl s) (runL (bkF n size) (bk s) ids)) = runL (bkF n size) (bk s) ids := rfl
              have hr1 : runOk (rlOk n size) (rlF n size) (bk (stS (pl s) (runL (bkF n size) (bk s) ids))) ids = true := by
                rw [runOk_all _ _ ha.2.1.2 hg.2.1, List.all_eq_true]
                intro id hid
                show freeB _ n size = true
                rw [hb1, hus id hid]
                exact (add_back (usedL_ok h.2.1 id) (hall id hid)).1
              unfold eachA
              rw [if_neg (by simp [ha1]), hr1]
              have e3 : runL (rlF n size) (bk (stS (pl s) (runL (bkF n size) (bk s) ids))) ids = bk s := by
                refine right_ext (run_right (okf := rlOk n size) _ ha.2.1 hg.2.1 (fun id hid => found_rng h (hf id hid)) (fun id u hu ho => free_ok hu ho) hr1) h.2.1 fun id => ?_
                rw [usedL_run _ ha.2.1.2 hg.2.1, hb1]
                by_cases hm : id ∈ ids
                · rw [if_pos hm, hus id hm]
                  exact (add_back (usedL_ok h.2.1 id) (hall id hm)).2
                · rw [if_neg hm, usedL_run _ h.2.1.2 hg.2.1, if_neg hm]
              rw [e3]
              rfl
            rw [e2] at hrel
            have hps : plan_Same 40000 ((s.1, s.2.1, s.2.2.1, s.2.2.2.1), s.1, s.2.1, s.2.2.1, s.2.2.2.1) = some true := by
              have := planSame_spec (pl s) (pl s) 40000 (by show s.1.length ≤ _; omega) (by show s.2.1.length ≤ _; omega) (by omega)
              rw [decide_eq_true rfl] at this
              exact this
            simp only [decide_true, Bool.not_true, cond_false, hL, Option.bind_some, hrel, cond_true, h.same s 40000 (by omega)]
            exact bind_s hps rfl
        · have e : eachA s ids n size (bkOk s.1 n size) (bkF n size) = (s, askE s.1 ids n size) := by
            unfold eachA
            rw [if_pos he]
          rw [e]
          simp only [decide_eq_false he, Bool.not_false, cond_true, h.same s 40000 (by omega), decide_true, Option.bind_some]
    · have c1 : decide (50 < Int.ofNat ids.length) = true := decide_eq_true (by show (50 : Int) < (ids.length : Int); omega)
      rw [c1]; rfl
  · rw [decide_eq_false few]; rfl
end Go.Proofs.YthlhbnaloefncaaGreatDoor.Ex
namespace Go.Proofs.YthlhbnaloefncaaGreatDoor.Ex.Tx
open Go Go.RowKit Go.Lib Go.Proofs.YthlhbnaloefncaaGreatDoor.Dig
set_option linter.unusedVariables false
set_option linter.unusedSimpArgs false
abbrev In64 (n : Int) : Prop := -9223372036854775808 ≤ n ∧ n ≤ 9223372036854775807
def cOk (i f t s e r : Int) : Bool := decide ((1 ≤ f ∧ f ≤ 255) ∧ (1 ≤ t ∧ t ≤ 255) ∧ f ≠ t ∧ 0 ≤ s ∧ s < e ∧ e ≤ 2147483647 ∧ 1 ≤ i ∧ i ≤ 1048576 ∧ 1 ≤ r ∧ r ≤ 2147483647)
def rOk (f t s e y : Int) : Bool := decide ((1 ≤ f ∧ f ≤ 255) ∧ (1 ≤ t ∧ t ≤ 255) ∧ f ≠ t ∧ 0 ≤ s ∧ s < e ∧ e ≤ 2147483647 ∧ 0 ≤ y ∧ y ≤ 2147483647)
def zR (p u v x y : Int) : Bool := decide (p = 0 ∧ u = 0 ∧ v = 0 ∧ x = 0 ∧ y = 0)
def zC (i f t s e r : Int) : Bool := decide (i = 0 ∧ f = 0 ∧ t = 0 ∧ s = 0 ∧ e = 0 ∧ r = 0)
def rightB (o q i f t s e r p u v x y : Int) : Bool :=
  if q = 1 then (zR p u v x y && (if o = 1 then cOk i f t s e r else if o = 2 then (decide (f = 0 ∧ t = 0 ∧ s = 0 ∧ e = 0 ∧ r = 0) && cOk i 1 2 0 1 1) else if o = 3 then (decide (f = 0 ∧ t = 0 ∧ s = 0 ∧ e = 0) && cOk i 1 2 0 1 r) else false))
  else if q = 2 then (zC i f t s e r && (if o = 1 then rOk p u v x y else if o = 2 then (decide (x = 0 ∧ y = 0) && rOk p u v 2147483647 0) else if o = 3 then (decide (x = 0) && rOk p u v 2147483647 y) else false))
  else false
def dR : GDirective → Bool := fun (o, q, i, f, t, s, e, r, p, u, v, x, y) => rightB o q i f t s e r p u v x y
theorem w64' {n : Int} (h : In64 n) : w64 n = n := by
  have h1 := h.1
  have h2 := h.2
  unfold w64 IntKind.wrap
  simp [IntKind.signed, IntKind.bits, Int.bmod]
  omega
theorem zb (x : Int) : ((0 : Int) == x) = decide (x = 0) := by
  by_cases h : x = 0
  · subst h; rfl
  · rw [decide_eq_false h]; exact beq_eq_false_iff_ne.2 (Ne.symm h)
theorem bif_id (a : Bool) : (bif a then some true else some false) = some a := by cases a <;> rfl
theorem bif_and (a b : Bool) : (bif a then some b else some false) = some (a && b) := by cases a <;> rfl
theorem num_In_sp (k : Nat) (n lo hi : Int) : num_In k (n, lo, hi) = some (decide (lo ≤ n ∧ n ≤ hi)) := by
  unfold num_In
  by_cases h1 : lo ≤ n <;> by_cases h2 : n ≤ hi <;> simp [h1, h2]
theorem contact_sp (k : Nat) {i f t s e r : Int} (he : In64 e) : check_Contact k (i, f, t, s, e, r) = some (cOk i f t s e r) := by
  unfold check_Contact check_way check_Node check_span
  simp only [num_In_sp, Option.bind_some, bif_id, bif_and]
  have e1 : w64 (e - 1) = e - 1 ∨ e = -9223372036854775808 ∧ w64 (e - 1) = 9223372036854775807 := by
    by_cases h : e = -9223372036854775808
    · subst h; exact .inr ⟨rfl, by decide⟩
    · exact .inl (w64' ⟨by have := he.1; omega, by have := he.2; omega⟩)
  rcases e1 with e1 | ⟨rfl, e1⟩
  · rw [e1]
    congr 1
    rw [Bool.eq_iff_iff]
    simp only [Bool.and_eq_true, decide_eq_true_eq, Bool.not_eq_true', decide_eq_false_iff_not, cOk, and_true]
    omega
  · rw [e1]
    congr 1
    rw [Bool.eq_iff_iff]
    simp only [Bool.and_eq_true, decide_eq_true_eq, Bool.not_eq_true', decide_eq_false_iff_not, cOk, and_true]
    omega
theorem range_sp (k : Nat) {f t s e y : Int} (he : In64 e) : check_Range k (f, t, s, e, y) = some (rOk f t s e y) := by
  unfold check_Range check_way check_Node check_span
  simp only [num_In_sp, Option.bind_some, bif_id, bif_and]
  have e1 : w64 (e - 1) = e - 1 ∨ e = -9223372036854775808 ∧ w64 (e - 1) = 9223372036854775807 := by
    by_cases h : e = -9223372036854775808
    · subst h; exact .inr ⟨rfl, by decide⟩
    · exact .inl (w64' ⟨by have := he.1; omega, by have := he.2; omega⟩)
  rcases e1 with e1 | ⟨rfl, e1⟩
  · rw [e1]
    congr 1
    rw [Bool.eq_iff_iff]
    simp only [Bool.and_eq_true, decide_eq_true_eq, Bool.not_eq_true', decide_eq_false_iff_not, rOk, and_true]
    omega
  · rw [e1]
    congr 1
    rw [Bool.eq_iff_iff]
    simp only [Bool.and_eq_true, decide_eq_true_eq, Bool.not_eq_true', decide_eq_false_iff_not, rOk, and_true]
    omega
theorem one64 : In64 1 := by constructor <;> decide
theorem max64 : In64 2147483647 := by constructor <;> decide
theorem mx_one (r : Int) : mx r 1 = max r 1 := by
  unfold mx
  split <;> omega
theorem right_sp (k : Nat) {d : GDirective} (he : In64 d.2.2.2.2.2.2.1) (hx : In64 d.2.2.2.2.2.2.2.2.2.2.2.1) : direct_Right k d = some (dR d) := by
  obtain ⟨o, q, i, f, t, s, e, r, p, u, v, x, y⟩ := d
  simp only at he hx
  simp only [dR]
  unfold direct_Right direct_may
  simp only [contact_sp k he, contact_sp k one64, range_sp k hx, range_sp k max64, Option.bind_some, bif_id, bif_and]
  by_cases hp : (o, q) ∈ fKsG
  · simp only [fKsG, List.mem_cons, List.not_mem_nil, or_false, Prod.mk.injEq] at hp
    rcases hp with ⟨rfl, rfl⟩ | ⟨rfl, rfl⟩ | ⟨rfl, rfl⟩ | ⟨rfl, rfl⟩ | ⟨rfl, rfl⟩ | ⟨rfl, rfl⟩
    · simp [rightB, zR, bif_and, zb]
    · simp [rightB, zR, bif_and, mx_one, zb]
      rw [Bool.eq_iff_iff]
      simp only [Bool.and_eq_true, decide_eq_true_eq]
      constructor
      · rintro ⟨⟨⟨rfl, rfl, rfl, rfl, rfl⟩, ⟨rfl, rfl, rfl, rfl, rfl⟩⟩, h2⟩; exact ⟨⟨rfl, rfl, rfl, rfl, rfl⟩, ⟨rfl, rfl, rfl, rfl, rfl⟩, h2⟩
      · rintro ⟨⟨rfl, rfl, rfl, rfl, rfl⟩, ⟨rfl, rfl, rfl, rfl, rfl⟩, h2⟩; exact ⟨⟨⟨rfl, rfl, rfl, rfl, rfl⟩, ⟨rfl, rfl, rfl, rfl, rfl⟩⟩, h2⟩
    · simp [rightB, zR, bif_and, zb]
      rw [Bool.eq_iff_iff]
      simp only [Bool.and_eq_true, decide_eq_true_eq]
      constructor
      · rintro ⟨⟨h1, h3⟩, h2⟩; exact ⟨h3, h1, h2⟩
      · rintro ⟨h1, h3, h2⟩; exact ⟨⟨h3, h1⟩, h2⟩
    · simp [rightB, zC, bif_and, zb]
    · simp [rightB, zC, bif_and, zb]
      rw [Bool.eq_iff_iff]
      simp only [Bool.and_eq_true, decide_eq_true_eq]
      constructor
      · rintro ⟨⟨h1, rfl, rfl⟩, h2⟩; exact ⟨h1, ⟨rfl, rfl⟩, h2⟩
      · rintro ⟨h1, ⟨rfl, rfl⟩, h2⟩; exact ⟨⟨h1, rfl, rfl⟩, h2⟩
    · simp [rightB, zC, bif_and, zb, Bool.and_assoc]
  · simp only [fKsG, List.mem_cons, List.not_mem_nil, or_false, Prod.mk.injEq, not_or, not_and] at hp
    have hb : rightB o q i f t s e r p u v x y = false := by
      unfold rightB
      by_cases q1 : q = 1
      · have h1 : o ≠ 1 := fun h => hp.1 h q1
        have h2 : o ≠ 2 := fun h => hp.2.1 h q1
        have h3 : o ≠ 3 := fun h => hp.2.2.1 h q1
        simp [q1, h1, h2, h3]
      · by_cases q2 : q = 2
        · have h1 : o ≠ 1 := fun h => hp.2.2.2.1 h q2
          have h2 : o ≠ 2 := fun h => hp.2.2.2.2.1 h q2
          have h3 : o ≠ 3 := fun h => hp.2.2.2.2.2 h q2
          simp [q2, h1, h2, h3]
        · simp [q1, q2]
    rw [hb]
    have n1 : (decide (o = 1) && decide (q = 1)) = false := by rw [← Bool.decide_and]; exact decide_eq_false fun h => hp.1 h.1 h.2
    have n2 : (decide (o = 2) && decide (q = 1)) = false := by rw [← Bool.decide_and]; exact decide_eq_false fun h => hp.2.1 h.1 h.2
    have n3 : (decide (o = 3) && decide (q = 1)) = false := by rw [← Bool.decide_and]; exact decide_eq_false fun h => hp.2.2.1 h.1 h.2
    have n4 : (decide (o = 1) && decide (q = 2)) = false := by rw [← Bool.decide_and]; exact decide_eq_false fun h => hp.2.2.2.1 h.1 h.2
    have n5 : (decide (o = 2) && decide (q = 2)) = false := by rw [← Bool.decide_and]; exact decide_eq_false fun h => hp.2.2.2.2.1 h.1 h.2
    have n6 : (decide (o = 3) && decide (q = 2)) = false := by rw [← Bool.decide_and]; exact decide_eq_false fun h => hp.2.2.2.2.2 h.1 h.2
    simp only [n1, n2, n3, n4, n5, n6, cond_false]
def vals : GDirective → List Int := fun (o, q, i, f, t, s, e, r, p, u, v, x, y) =>
  if q = 1 then (if o = 1 then [i, f, t, s, e, r] else if o = 2 then [i] else [i, r]) else if o = 1 then [p, u, v, x, y] else if o = 2 then [p, u, v] else [p, u, v, y]
def tB (n : Int) : ByteArray := ofL (itoaK n)
def wordsB (d : GDirective) : List ByteArray := ofL (opB d.1) :: ofL (kdB d.2.1) :: (vals d).map tB
def mkD : Int × Int → List Int → GDirective
  | (1, 1), [a, b, c, d, e, f] => (1, 1, a, b, c, d, e, f, 0, 0, 0, 0, 0)
  | (2, 1), [a] => (2, 1, a, 0, 0, 0, 0, 0, 0, 0, 0, 0, 0)
  | (3, 1), [a, b] => (3, 1, a, 0, 0, 0, 0, b, 0, 0, 0, 0, 0)
  | (1, 2), [a, b, c, d, e] => (1, 2, 0, 0, 0, 0, 0, 0, a, b, c, d, e)
  | (2, 2), [a, b, c] => (2, 2, 0, 0, 0, 0, 0, 0, a, b, c, 0, 0)
  | (3, 2), [a, b, c, d] => (3, 2, 0, 0, 0, 0, 0, 0, a, b, c, 0, d)
  | _, _ => (0, 0, 0, 0, 0, 0, 0, 0, 0, 0, 0, 0, 0)
abbrev d0 : GDirective := (0, 0, 0, 0, 0, 0, 0, 0, 0, 0, 0, 0, 0)
def pn : List ByteArray → Option (List Int)
  | [] => some []
  | s :: r => match parseI s.data.toList 2147483647 with
    | (n, true) => (pn r).map (n :: ·)
    | (_, false) => none
def outD (d : GDirective) : GDirective × Int := bif dR d then (d, 0) else (d0, 1)
def parseB (l : List ByteArray) : GDirective × Int := match fKsG.find? (hit l) with
  | none => (d0, 2)
  | some p => bif decide ((l.length : Int) = 2 + nOf p) then (match pn (l.drop 2) with
    | none => (d0, 2)
    | some ns => outD (mkD p ns)) else (d0, 2)
theorem dR_pair {d : GDirective} (h : dR d = true) : (d.1, d.2.1) ∈ fKsG := by
  obtain ⟨o, q, i, f, t, s, e, r, p, u, v, x, y⟩ := d
  simp only [dR] at h
  refine Classical.byContradiction fun hp => ?_
  simp only [fKsG, List.mem_cons, List.not_mem_nil, or_false, Prod.mk.injEq, not_or, not_and] at hp
  unfold rightB at h
  by_cases q1 : q = 1
  · have h1 : o ≠ 1 := fun h => hp.1 h q1
    have h2 : o ≠ 2 := fun h => hp.2.1 h q1
    have h3 : o ≠ 3 := fun h => hp.2.2.1 h q1
    simp [q1, h1, h2, h3] at h
  · by_cases q2 : q = 2
    · have h1 : o ≠ 1 := fun h => hp.2.2.2.1 h q2
      have h2 : o ≠ 2 := fun h => hp.2.2.2.2.1 h q2
      have h3 : o ≠ 3 := fun h => hp.2.2.2.2.2 h q2
      simp [q2, h1, h2, h3] at h
    · simp [q1, q2] at h
theorem dR_shape {d : GDirective} (h : dR d = true) : mkD (d.1, d.2.1) (vals d) = d ∧ (∀ n ∈ vals d, 0 ≤ n ∧ n ≤ 2147483647) ∧ ((vals d).length : Int) = nOf (d.1, d.2.1) := by
  have hp := dR_pair h
  obtain ⟨o, q, i, f, t, s, e, r, p, u, v, x, y⟩ := d
  simp only [dR] at h
  simp only [fKsG, List.mem_cons, List.not_mem_nil, or_false, Prod.mk.injEq] at hp
  rcases hp with ⟨rfl, rfl⟩ | ⟨rfl, rfl⟩ | ⟨rfl, rfl⟩ | ⟨rfl, rfl⟩ | ⟨rfl, rfl⟩ | ⟨rfl, rfl⟩
  · simp [rightB, zR] at h
    obtain ⟨⟨rfl, rfl, rfl, rfl, rfl⟩, h⟩ := h
    simp only [cOk, decide_eq_true_eq] at h
    refine ⟨rfl, ?_, rfl⟩
    simp [vals]
    omega
  · simp [rightB, zR] at h
    obtain ⟨⟨rfl, rfl, rfl, rfl, rfl⟩, ⟨rfl, rfl, rfl, rfl, rfl⟩, h⟩ := h
    simp only [cOk, decide_eq_true_eq] at h
    refine ⟨rfl, ?_, rfl⟩
    simp [vals]
    omega
  · simp [rightB, zR] at h
    obtain ⟨⟨rfl, rfl, rfl, rfl, rfl⟩, ⟨rfl, rfl, rfl, rfl⟩, h⟩ := h
    simp only [cOk, decide_eq_true_eq] at h
    refine ⟨rfl, ?_, rfl⟩
    simp [vals]
    omega
  · simp [rightB, zC] at h
    obtain ⟨⟨rfl, rfl, rfl, rfl, rfl, rfl⟩, h⟩ := h
    simp only [rOk, decide_eq_true_eq] at h
    refine ⟨rfl, ?_, rfl⟩
    simp [vals]
    omega
  · simp [rightB, zC] at h
    obtain ⟨⟨rfl, rfl, rfl, rfl, rfl, rfl⟩, ⟨rfl, rfl⟩, h⟩ := h
    simp only [rOk, decide_eq_true_eq] at h
    refine ⟨rfl, ?_, rfl⟩
    simp [vals]
    omega
  · simp [rightB, zC] at h
    obtain ⟨⟨rfl, rfl, rfl, rfl, rfl, rfl⟩, rfl, h⟩ := h
    simp only [rOk, decide_eq_true_eq] at h
    refine ⟨rfl, ?_, rfl⟩
    simp [vals]
    omega
theorem tB_data {n : Int} (h0 : 0 ≤ n) (h1 : n ≤ 2147483647) : (tB n).data.toList = itoa n := by
  unfold tB
  rw [data_ofL, itoaK_eq (by omega) (by omega)]
theorem bytes_eq {a b : ByteArray} (h : a.data.toList = b.data.toList) : a = b := by rw [← ofL_data a, ← ofL_data b, h]
theorem pn_text : ∀ {l : List ByteArray} {ns : List Int}, pn l = some ns → l = ns.map tB ∧ ∀ n ∈ ns, 0 ≤ n ∧ n ≤ 2147483647
  | [], ns, h => by
    obtain rfl : [] = ns := Option.some.inj h
    exact ⟨rfl, fun n hn => by cases hn⟩
  | s :: r, ns, h => by
    rw [pn] at h
    cases hp : parseI s.data.toList 2147483647 with
    | mk n b =>
      rw [hp] at h
      cases b with
      | false => cases h
      | true =>
        obtain ⟨ms, h1, rfl⟩ := Option.map_eq_some_iff.1 h
        obtain ⟨g1, g2, g3, g4⟩ := parse_true hp
        obtain ⟨e1, e2⟩ := pn_text h1
        refine ⟨?_, fun m hm => ?_⟩
        · rw [List.map_cons, ← e1, show tB n = s from bytes_eq (by rw [tB_data g1 g2, g4])]
        · rcases List.mem_cons.1 hm with rfl | hm
          · exact ⟨g1, g2⟩
          · exact e2 m hm
theorem pn_len {l : List ByteArray} {ns : List Int} (h : pn l = some ns) : ns.length = l.length := by rw [(pn_text h).1]; simp
theorem nOf_pos (p : Int × Int) : 1 ≤ nOf p ∧ nOf p ≤ 6 := by unfold nOf; split <;> omega
theorem mkD_vals {p : Int × Int} (hp : p ∈ fKsG) {ns : List Int} (h : (ns.length : Int) = nOf p) : vals (mkD p ns) = ns ∧ (mkD p ns).1 = p.1 ∧ (mkD p ns).2.1 = p.2 := by
  simp only [fKsG, List.mem_cons, List.not_mem_nil, or_false] at hp
  rcases hp with rfl | rfl | rfl | rfl | rfl | rfl
  · match ns, (show ns.length = 6 from by simpa [nOf] using (by omega : (ns.length : Int) = 6 → ns.length = 6) h) with
    | [a, b, c, d, e, f], _ => exact ⟨rfl, rfl, rfl⟩
  · match ns, (show ns.length = 1 from by simpa [nOf] using (by omega : (ns.length : Int) = 1 → ns.length = 1) h) with
    | [a], _ => exact ⟨rfl, rfl, rfl⟩
  · match ns, (show ns.length = 2 from by simpa [nOf] using (by omega : (ns.length : Int) = 2 → ns.length = 2) h) with
    | [a, b], _ => exact ⟨rfl, rfl, rfl⟩
  · match ns, (show ns.length = 5 from by simpa [nOf] using (by omega : (ns.length : Int) = 5 → ns.length = 5) h) with
    | [a, b, c, d, e], _ => exact ⟨rfl, rfl, rfl⟩
  · match ns, (show ns.length = 3 from by simpa [nOf] using (by omega : (ns.length : Int) = 3 → ns.length = 3) h) with
    | [a, b, c], _ => exact ⟨rfl, rfl, rfl⟩
  · match ns, (show ns.length = 4 from by simpa [nOf] using (by omega : (ns.length : Int) = 4 → ns.length = 4) h) with
    | [a, b, c, d], _ => exact ⟨rfl, rfl, rfl⟩
theorem parse_cases (l : List ByteArray) : parseB l = (d0, 2) ∨ parseB l = (d0, 1) ∨ ∃ d, parseB l = (d, 0) ∧ dR d = true ∧ wordsB d = l := by
  cases hf : fKsG.find? (hit l) with
  | none => left; unfold parseB; rw [hf]
  | some p =>
    have hp := List.mem_of_find?_eq_some hf
    have hh := List.find?_some hf
    by_cases hl : (l.length : Int) = 2 + nOf p
    · cases hn : pn (l.drop 2) with
      | none => left; unfold parseB; rw [hf]; simp only [hn, decide_eq_true hl, cond_true]
      | some ns =>
        have hpos := nOf_pos p
        have hlen : (ns.length : Int) = nOf p := by rw [pn_len hn, List.length_drop]; omega
        obtain ⟨v1, v2, v3⟩ := mkD_vals hp hlen
        have he : parseB l = outD (mkD p ns) := by unfold parseB; rw [hf]; simp only [hn, decide_eq_true hl, cond_true]
        rw [he]
        unfold outD
        cases hr : dR (mkD p ns) with
        | false => right; left; rfl
        | true =>
          right; right
          refine ⟨mkD p ns, rfl, hr, ?_⟩
          simp only [hit, Bool.and_eq_true, beq_iff_eq] at hh
          obtain ⟨_, g1, g2⟩ := hh
          match l, hl, hn, g1, g2 with
          | [], hl, _, _, _ => simp at hl; omega
          | [a], hl, _, _, _ => simp at hl; omega
          | a :: b :: rest, hl, hn, g1, g2 =>
            simp only [List.drop_succ_cons, List.drop_zero] at hn
            simp only [List.getD_cons_zero, List.getD_cons_succ] at g1 g2
            unfold wordsB
            rw [v1, v2, v3, ← g1, ← g2, ofL_data, ofL_data, (pn_text hn).1]
    · left; unfold parseB; rw [hf]; simp only [decide_eq_false hl, cond_false]
end Go.Proofs.YthlhbnaloefncaaGreatDoor.Ex.Tx
namespace Go.Proofs.YthlhbnaloefncaaGreatDoor.Ex.Tx
open Go Go.RowKit Go.Lib Go.Proofs.YthlhbnaloefncaaGreatDoor.Dig
set_option linter.unusedVariables false
set_option linter.unusedSimpArgs false
theorem num_Parse_sp (k : Nat) {s : ByteArray} (hs : s.size ≤ 9223372036854775807) : num_Parse k (s, 2147483647) = some (parseI s.data.toList 2147483647) := by
  unfold num_Parse
  rw [decide_eq_true hs]
  rfl
theorem e01 : w64 (0 + 1) = 1 := by decide
theorem e11 : w64 (1 + 1) = 2 := by decide
theorem e21 : w64 (2 + 1) = 3 := by decide
theorem e31 : w64 (3 + 1) = 4 := by decide
theorem e41 : w64 (4 + 1) = 5 := by decide
theorem e20 : w64 (2 + 0) = 2 := by decide
theorem e22 : w64 (2 + 2) = 4 := by decide
theorem e23 : w64 (2 + 3) = 5 := by decide
theorem e24 : w64 (2 + 4) = 6 := by decide
theorem e25 : w64 (2 + 5) = 7 := by decide
theorem pn_nil : pn [] = some [] := rfl
theorem pn_cons (s : ByteArray) (r : List ByteArray) : pn (s :: r) = bif (parseI s.data.toList 2147483647).2 then (pn r).map ((parseI s.data.toList 2147483647).1 :: ·) else none := by
  rw [pn]
  cases parseI s.data.toList 2147483647 with | mk n b => cases b <;> rfl
theorem parseI_64 {s : ByteArray} (h : (parseI s.data.toList 2147483647).2 = true) : In64 (parseI s.data.toList 2147483647).1 := by
  obtain ⟨h1, h2, _, _⟩ := parse_true (l := s.data.toList) (high := 2147483647) (n := (parseI s.data.toList 2147483647).1) (Prod.ext rfl h)
  exact ⟨by omega, by omega⟩
theorem zero64 : In64 0 := by constructor <;> decide
theorem outD_eq (k : Nat) {d : GDirective} (he : In64 d.2.2.2.2.2.2.1) (hx : In64 d.2.2.2.2.2.2.2.2.2.2.2.1) : ((direct_Right k d).bind fun b => bif b then some (d, (0 : Int)) else some (d0, 1)) = some (outD d) := by
  rw [right_sp k he hx]
  unfold outD
  cases dR d <;> rfl
theorem parse_sp (k : Nat) {l : List ByteArray} (hs : ∀ a ∈ l, a.size ≤ 9223372036854775807) : direct_Parse k l = some (parseB l) := by
  unfold direct_Parse direct_find parseB
  cases hf : fKsG.find? (hit l) with
  | none => rfl
  | some p =>
    have hp := List.mem_of_find?_eq_some hf
    clear hf
    simp only [Option.bind_some]
    by_cases hl : (l.length : Int) = 2 + nOf p
    · rw [decide_eq_true hl]
      simp only [fKsG, List.mem_cons, List.not_mem_nil, or_false] at hp
      rcases hp with rfl | rfl | rfl | rfl | rfl | rfl
      · match l, (show l.length = 8 from by simp only [nOf] at hl; omega), hs with
        | [a, b, c0, c1, c2, c3, c4, c5], _, hs =>
          have lens : ∀ z ∈ [c0, c1, c2, c3, c4, c5], ∀ h : Int, num_Parse k (z, 2147483647) = some (parseI z.data.toList 2147483647) := fun z hz _ => num_Parse_sp k (hs z (by simp at hz ⊢; right; right; exact hz))
          simp only [(by decide : decide ((2 : Int) < ((8 : Nat) : Int)) = true), (by decide : decide ((3 : Int) < ((8 : Nat) : Int)) = true), (by decide : decide ((4 : Int) < ((8 : Nat) : Int)) = true), (by decide : decide ((5 : Int) < ((8 : Nat) : Int)) = true), (by decide : decide ((6 : Int) < ((8 : Nat) : Int)) = true), (by decide : decide ((7 : Int) < ((8 : Nat) : Int)) = true), e01, e11, e21, e31, e41, e20, e22, e23, e24, e25, Int.ofNat_eq_natCast, List.length_cons, List.length_nil, cond_true, Option.bind_some, List.getD_cons_succ, List.getD_cons_zero, List.drop_succ_cons, List.drop_zero, Int.reduceToNat, Nat.reduceAdd, decide_true, decide_false, Int.reduceLT, Int.reduceEq, Bool.and_self, Bool.and_true, Bool.and_false, cond_false, lens c0 (by simp) 0, lens c1 (by simp) 0, lens c2 (by simp) 0, lens c3 (by simp) 0, lens c4 (by simp) 0, lens c5 (by simp) 0, pn_cons, pn_nil]
          cases h0 : (parseI c0.data.toList 2147483647).2 with
          | false => simp only [h0, cond_false, cond_true, Option.map_none, Option.map_some]
          | true =>
            cases h1 : (parseI c1.data.toList 2147483647).2 with
            | false => simp only [h0, h1, cond_false, cond_true, Option.map_none, Option.map_some]
            | true =>
              cases h2 : (parseI c2.data.toList 2147483647).2 with
              | false => simp only [h0, h1, h2, cond_false, cond_true, Option.map_none, Option.map_some]
              | true =>
                cases h3 : (parseI c3.data.toList 2147483647).2 with
                | false => simp only [h0, h1, h2, h3, cond_false, cond_true, Option.map_none, Option.map_some]
                | true =>
                  cases h4 : (parseI c4.data.toList 2147483647).2 with
                  | false => simp only [h0, h1, h2, h3, h4, cond_false, cond_true, Option.map_none, Option.map_some]
                  | true =>
                    cases h5 : (parseI c5.data.toList 2147483647).2 with
                    | false => simp only [h0, h1, h2, h3, h4, h5, cond_false, cond_true, Option.map_none, Option.map_some]
                    | true =>
                      simp only [cond_true, Option.map_some]
                      exact outD_eq k (parseI_64 h4) zero64
      · match l, (show l.length = 3 from by simp only [nOf] at hl; omega), hs with
        | [a, b, c0], _, hs =>
          have lens : ∀ z ∈ [c0], ∀ h : Int, num_Parse k (z, 2147483647) = some (parseI z.data.toList 2147483647) := fun z hz _ => num_Parse_sp k (hs z (by simp at hz ⊢; right; right; exact hz))
          simp only [(by decide : decide ((2 : Int) < ((3 : Nat) : Int)) = true), e01, e11, e21, e31, e41, e20, e22, e23, e24, e25, Int.ofNat_eq_natCast, List.length_cons, List.length_nil, cond_true, Option.bind_some, List.getD_cons_succ, List.getD_cons_zero, List.drop_succ_cons, List.drop_zero, Int.reduceToNat, Nat.reduceAdd, decide_true, decide_false, Int.reduceLT, Int.reduceEq, Bool.and_self, Bool.and_true, Bool.and_false, cond_false, lens c0 (by simp) 0, pn_cons, pn_nil]
          cases h0 : (parseI c0.data.toList 2147483647).2 with
          | false => simp only [h0, cond_false, cond_true, Option.map_none, Option.map_some]
          | true =>
            simp only [cond_true, Option.map_some]
            exact outD_eq k zero64 zero64
      · match l, (show l.length = 4 from by simp only [nOf] at hl; omega), hs with
        | [a, b, c0, c1], _, hs =>
          have lens : ∀ z ∈ [c0, c1], ∀ h : Int, num_Parse k (z, 2147483647) = some (parseI z.data.toList 2147483647) := fun z hz _ => num_Parse_sp k (hs z (by simp at hz ⊢; right; right; exact hz))
          simp only [(by decide : decide ((2 : Int) < ((4 : Nat) : Int)) = true), (by decide : decide ((3 : Int) < ((4 : Nat) : Int)) = true), e01, e11, e21, e31, e41, e20, e22, e23, e24, e25, Int.ofNat_eq_natCast, List.length_cons, List.length_nil, cond_true, Option.bind_some, List.getD_cons_succ, List.getD_cons_zero, List.drop_succ_cons, List.drop_zero, Int.reduceToNat, Nat.reduceAdd, decide_true, decide_false, Int.reduceLT, Int.reduceEq, Bool.and_self, Bool.and_true, Bool.and_false, cond_false, lens c0 (by simp) 0, lens c1 (by simp) 0, pn_cons, pn_nil]
          cases h0 : (parseI c0.data.toList 2147483647).2 with
          | false => simp only [h0, cond_false, cond_true, Option.map_none, Option.map_some]
          | true =>
            cases h1 : (parseI c1.data.toList 2147483647).2 with
            | false => simp only [h0, h1, cond_false, cond_true, Option.map_none, Option.map_some]
            | true =>
              simp only [cond_true, Option.map_some]
              exact outD_eq k zero64 zero64
      · match l, (show l.length = 7 from by simp only [nOf] at hl; omega), hs with
        | [a, b, c0, c1, c2, c3, c4], _, hs =>
          have lens : ∀ z ∈ [c0, c1, c2, c3, c4], ∀ h : Int, num_Parse k (z, 2147483647) = some (parseI z.data.toList 2147483647) := fun z hz _ => num_Parse_sp k (hs z (by simp at hz ⊢; right; right; exact hz))
          simp only [(by decide : decide ((2 : Int) < ((7 : Nat) : Int)) = true), (by decide : decide ((3 : Int) < ((7 : Nat) : Int)) = true), (by decide : decide ((4 : Int) < ((7 : Nat) : Int)) = true), (by decide : decide ((5 : Int) < ((7 : Nat) : Int)) = true), (by decide : decide ((6 : Int) < ((7 : Nat) : Int)) = true), e01, e11, e21, e31, e41, e20, e22, e23, e24, e25, Int.ofNat_eq_natCast, List.length_cons, List.length_nil, cond_true, Option.bind_some, List.getD_cons_succ, List.getD_cons_zero, List.drop_succ_cons, List.drop_zero, Int.reduceToNat, Nat.reduceAdd, decide_true, decide_false, Int.reduceLT, Int.reduceEq, Bool.and_self, Bool.and_true, Bool.and_false, cond_false, lens c0 (by simp) 0, lens c1 (by simp) 0, lens c2 (by simp) 0, lens c3 (by simp) 0, lens c4 (by simp) 0, pn_cons, pn_nil]
          cases h0 : (parseI c0.data.toList 2147483647).2 with
          | false => simp only [h0, cond_false, cond_true, Option.map_none, Option.map_some]
          | true =>
            cases h1 : (parseI c1.data.toList 2147483647).2 with
            | false => simp only [h0, h1, cond_false, cond_true, Option.map_none, Option.map_some]
            | true =>
              cases h2 : (parseI c2.data.toList 2147483647).2 with
              | false => simp only [h0, h1, h2, cond_false, cond_true, Option.map_none, Option.map_some]
              | true =>
                cases h3 : (parseI c3.data.toList 2147483647).2 with
                | false => simp only [h0, h1, h2, h3, cond_false, cond_true, Option.map_none, Option.map_some]
                | true =>
                  cases h4 : (parseI c4.data.toList 2147483647).2 with
                  | false => simp only [h0, h1, h2, h3, h4, cond_false, cond_true, Option.map_none, Option.map_some]
                  | true =>
                    simp only [cond_true, Option.map_some]
                    exact outD_eq k zero64 (parseI_64 h3)
      · match l, (show l.length = 5 from by simp only [nOf] at hl; omega), hs with
        | [a, b, c0, c1, c2], _, hs =>
          have lens : ∀ z ∈ [c0, c1, c2], ∀ h : Int, num_Parse k (z, 2147483647) = some (parseI z.data.toList 2147483647) := fun z hz _ => num_Parse_sp k (hs z (by simp at hz ⊢; right; right; exact hz))
          simp only [(by decide : decide ((2 : Int) < ((5 : Nat) : Int)) = true), (by decide : decide ((3 : Int) < ((5 : Nat) : Int)) = true), (by decide : decide ((4 : Int) < ((5 : Nat) : Int)) = true), e01, e11, e21, e31, e41, e20, e22, e23, e24, e25, Int.ofNat_eq_natCast, List.length_cons, List.length_nil, cond_true, Option.bind_some, List.getD_cons_succ, List.getD_cons_zero, List.drop_succ_cons, List.drop_zero, Int.reduceToNat, Nat.reduceAdd, decide_true, decide_false, Int.reduceLT, Int.reduceEq, Bool.and_self, Bool.and_true, Bool.and_false, cond_false, lens c0 (by simp) 0, lens c1 (by simp) 0, lens c2 (by simp) 0, pn_cons, pn_nil]
          cases h0 : (parseI c0.data.toList 2147483647).2 with
          | false => simp only [h0, cond_false, cond_true, Option.map_none, Option.map_some]
          | true =>
            cases h1 : (parseI c1.data.toList 2147483647).2 with
            | false => simp only [h0, h1, cond_false, cond_true, Option.map_none, Option.map_some]
            | true =>
              cases h2 : (parseI c2.data.toList 2147483647).2 with
              | false => simp only [h0, h1, h2, cond_false, cond_true, Option.map_none, Option.map_some]
              | true =>
                simp only [cond_true, Option.map_some]
                exact outD_eq k zero64 zero64
      · match l, (show l.length = 6 from by simp only [nOf] at hl; omega), hs with
        | [a, b, c0, c1, c2, c3], _, hs =>
          have lens : ∀ z ∈ [c0, c1, c2, c3], ∀ h : Int, num_Parse k (z, 2147483647) = some (parseI z.data.toList 2147483647) := fun z hz _ => num_Parse_sp k (hs z (by simp at hz ⊢; right; right; exact hz))
          simp only [(by decide : decide ((2 : Int) < ((6 : Nat) : Int)) = true), (by decide : decide ((3 : Int) < ((6 : Nat) : Int)) = true), (by decide : decide ((4 : Int) < ((6 : Nat) : Int)) = true), (by decide : decide ((5 : Int) < ((6 : Nat) : Int)) = true), e01, e11, e21, e31, e41, e20, e22, e23, e24, e25, Int.ofNat_eq_natCast, List.length_cons, List.length_nil, cond_true, Option.bind_some, List.getD_cons_succ, List.getD_cons_zero, List.drop_succ_cons, List.drop_zero, Int.reduceToNat, Nat.reduceAdd, decide_true, decide_false, Int.reduceLT, Int.reduceEq, Bool.and_self, Bool.and_true, Bool.and_false, cond_false, lens c0 (by simp) 0, lens c1 (by simp) 0, lens c2 (by simp) 0, lens c3 (by simp) 0, pn_cons, pn_nil]
          cases h0 : (parseI c0.data.toList 2147483647).2 with
          | false => simp only [h0, cond_false, cond_true, Option.map_none, Option.map_some]
          | true =>
            cases h1 : (parseI c1.data.toList 2147483647).2 with
            | false => simp only [h0, h1, cond_false, cond_true, Option.map_none, Option.map_some]
            | true =>
              cases h2 : (parseI c2.data.toList 2147483647).2 with
              | false => simp only [h0, h1, h2, cond_false, cond_true, Option.map_none, Option.map_some]
              | true =>
                cases h3 : (parseI c3.data.toList 2147483647).2 with
                | false => simp only [h0, h1, h2, h3, cond_false, cond_true, Option.map_none, Option.map_some]
                | true =>
                  simp only [cond_true, Option.map_some]
                  exact outD_eq k zero64 zero64
    · rw [decide_eq_false hl]
      rfl
end Go.Proofs.YthlhbnaloefncaaGreatDoor.Ex.Tx
namespace Go.Proofs.YthlhbnaloefncaaGreatDoor.Ex.Tx
open Go Go.RowKit Go.Lib Go.Proofs.YthlhbnaloefncaaGreatDoor.Wrd
set_option linter.unusedVariables false
set_option linter.unusedSimpArgs false
theorem ofL_size (l : List UInt8) : (ofL l).size = l.length := by simp [ofL, ByteArray.size]
def cat (l : List (List UInt8)) : List UInt8 := l.flatMap fun x => x ++ [10]
theorem cat_split : ∀ (m : List UInt8), cat (splitF m) = m ++ [10]
  | [] => rfl
  | c :: m => by
    have ih := cat_split m
    unfold splitF
    by_cases hc : c = 10
    · rw [if_pos hc]; subst hc
      show [10] ++ cat (splitF m) = _
      rw [ih]; rfl
    · rw [if_neg hc]
      cases h : splitF m with
      | nil => exact absurd h (splitF_ne m)
      | cons x r =>
        rw [h] at ih
        show (c :: x) ++ [10] ++ cat r = _
        have : cat (x :: r) = x ++ [10] ++ cat r := rfl
        rw [this] at ih
        simp only [List.cons_append]
        rw [ih]
theorem cat_lines (s : List UInt8) : cat (linesL s) = s ∨ cat (linesL s) = s ++ [10] := by
  unfold linesL
  split
  · rename_i h; left; rw [h]; rfl
  · rename_i h
    unfold trimF
    split
    · rename_i h2
      left
      rw [cat_split]
      obtain ⟨m, hm⟩ := List.getLast?_eq_some_iff.1 h2
      rw [hm]; simp
    · right; exact cat_split s
theorem split_len : ∀ (m : List UInt8), (splitF m).length ≤ m.length + 1
  | [] => by simp [splitF]
  | c :: m => by
    have ih := split_len m
    unfold splitF
    split
    · simp only [List.length_cons]; omega
    · cases h : splitF m with
      | nil => simp
      | cons x r => rw [h] at ih; simp only [List.length_cons] at ih ⊢; omega
theorem lines_len (s : List UInt8) : (linesL s).length ≤ s.length + 1 := by
  unfold linesL
  split
  · simp
  · have h1 := split_len (trimF s)
    have h2 : (trimF s).length ≤ s.length := by unfold trimF; split <;> simp
    omega
theorem wgo_total : ∀ (l cur : List UInt8), ∀ x ∈ wgo l cur, x.length ≤ l.length + cur.length
  | [], cur, x, hx => by
    unfold wgo at hx
    split at hx
    · simp at hx
    · rw [List.mem_singleton] at hx; subst hx; simp
  | c :: l, cur, x, hx => by
    simp only [wgo] at hx
    split at hx
    · split at hx
      · have := wgo_total l [] x hx; simp at this ⊢; omega
      · rcases List.mem_cons.1 hx with rfl | hx
        · simp
        · have := wgo_total l [] x hx; simp at this ⊢; omega
    · have := wgo_total l _ x hx; simp at this ⊢; omega
theorem words_size (l : List UInt8) : ∀ x ∈ wordsL l, x.length ≤ l.length := by
  intro x hx
  have h := wgo_total _ _ x hx
  have h2 : (bare l).length ≤ l.length := (List.takeWhile_sublist _).length_le
  simp at h; omega
end Go.Proofs.YthlhbnaloefncaaGreatDoor.Ex.Tx
namespace Go.Proofs.YthlhbnaloefncaaGreatDoor.Ex.Tx
open Go Go.RowKit Go.Lib Go.Proofs.YthlhbnaloefncaaGreatDoor.Wrd Go.Proofs.YthlhbnaloefncaaGreatDoor.Dig
set_option linter.unusedVariables false
set_option linter.unusedSimpArgs false
theorem getD_nat {α : Type} (l : List α) (z : α) {j : Nat} (h : j < l.length) : l.getD ((j : Int)).toNat z = l[j] := by
  rw [Int.toNat_natCast, List.getD_eq_getElem?_getD, List.getElem?_eq_getElem h]; rfl
theorem lt_yes {i n : Nat} (h : i < n) : decide ((i : Int) < Int.ofNat n) = true := decide_eq_true (by simpa using h)
theorem lt_no {i n : Nat} (h : n ≤ i) : decide ((i : Int) < Int.ofNat n) = false := decide_eq_false (by simp; omega)
theorem ge0 (i : Nat) : decide ((0 : Int) ≤ (i : Int)) = true := decide_eq_true (by omega)
theorem w64_succ {i : Nat} (h : i ≤ 4611686018427387904) : w64 ((i : Int) + 1) = ((i + 1 : Nat) : Int) := by
  rw [w64' ⟨by omega, by omega⟩]; omega
theorem words_Words_sp (k : Nat) {l : List UInt8} (h : l.length < 4294967281) : words_Words k (ofL l) = some ((wordsL l).map ofL) := by
  unfold words_Words
  rw [decide_eq_true (by rw [ofL_size]; exact h), data_ofL]
  rfl
theorem words_Lines_sp (k : Nat) {s : ByteArray} (h : s.size < 4294967281) : words_Lines k s = some ((linesL s.data.toList).map ofL) := by
  unfold words_Lines
  rw [decide_eq_true h]
  rfl
def rowsF : Int → List (List UInt8) → List (Int × List ByteArray)
  | _, [] => []
  | i, x :: r => bif (wordsL x).isEmpty then rowsF (i + 1) r else (i, (wordsL x).map ofL) :: rowsF (i + 1) r
def rowsT (s : List UInt8) : List (Int × List ByteArray) := rowsF 1 (linesL s)
theorem rows_L0 (M : List (List UInt8)) (hM : M.length ≤ 1000000) (hs : ∀ x ∈ M, x.length ≤ 1000000) : ∀ (n i k : Nat) (out : List (Int × List ByteArray)), i + n = M.length → n < k → out.length ≤ i →
    text_rows_L0 k (out, M.map ofL, Int.ofNat (M.map ofL).length, (i : Int)) = some (.inl (out ++ rowsF ((i + 1 : Nat) : Int) (M.drop i)))
  | 0, i, k, out, h, hk, ho => by
    obtain ⟨k, rfl⟩ : ∃ m, k = m + 1 := ⟨k - 1, by omega⟩
    rw [text_rows_L0, lt_no (by rw [List.length_map]; omega), List.drop_eq_nil_of_le (by omega)]
    simp [rowsF]
  | n + 1, i, k, out, h, hk, ho => by
    obtain ⟨k, rfl⟩ : ∃ m, k = m + 1 := ⟨k - 1, by omega⟩
    have hi : i < M.length := by omega
    have hi' : i < (M.map ofL).length := by rw [List.length_map]; exact hi
    have hx := hs M[i] (List.getElem_mem hi)
    rw [text_rows_L0, lt_yes hi', ge0, getD_nat _ _ hi', List.getElem_map, words_Words_sp k (by omega), w64_succ (by omega), List.drop_eq_getElem_cons hi]
    simp only [cond_true, Option.bind_some, rowsF]
    cases hw : wordsL M[i] with
    | nil =>
      simp only [List.map_nil, List.length_nil, List.isEmpty_nil, cond_true]
      rw [show decide ((0 : Int) < Int.ofNat 0) = false from rfl, cond_false, rows_L0 M hM hs n (i + 1) k out (by omega) (by omega) (by omega)]
      rw [show (((i + 1 : Nat) : Int) + 1) = ((i + 1 + 1 : Nat) : Int) by omega]
    | cons w ws =>
      simp only [List.map_cons, List.length_cons, List.isEmpty_cons, cond_false]
      rw [show decide ((0 : Int) < Int.ofNat ((ws.map ofL).length + 1)) = true from decide_eq_true (by simp <;> omega), cond_true, decide_eq_true (by simp <;> omega), cond_true, rows_L0 M hM hs n (i + 1) k _ (by omega) (by omega) (by simp; omega)]
      rw [show (((i + 1 : Nat) : Int) + 1) = ((i + 1 + 1 : Nat) : Int) by omega]
      simp
theorem lines_each (s : List UInt8) : ∀ x ∈ linesL s, x.length ≤ s.length := by
  intro x hx
  have h : x.length + 1 ≤ (cat (linesL s)).length := by
    have : ∀ (L : List (List UInt8)), x ∈ L → x.length + 1 ≤ (cat L).length := by
      intro L
      induction L with
      | nil => intro h; cases h
      | cons y r ih =>
        intro h
        have e : (cat (y :: r)).length = y.length + 1 + (cat r).length := by simp [cat]; omega
        rcases List.mem_cons.1 h with rfl | h
        · omega
        · have := ih h; omega
    exact this _ hx
  rcases cat_lines s with h2 | h2 <;> rw [h2] at h
  · omega
  · simp at h; omega
theorem rows_sp (k : Nat) {s : ByteArray} (hs : s.size ≤ 900000) (hk : s.size + 2 < k) : text_rows k s = some (rowsT s.data.toList) := by
  have e : s.data.toList.length = s.size := by rw [Array.length_toList]; rfl
  have h1 := lines_len s.data.toList
  unfold text_rows
  rw [words_Lines_sp k (by omega), Option.bind_some, show (0 : Int) = ((0 : Nat) : Int) from rfl, rows_L0 (linesL s.data.toList) (by omega) (fun x hx => by have := lines_each _ x hx; omega) (linesL s.data.toList).length 0 k [] (by omega) (by omega) (by simp)]
  rfl
def parseS : List (Int × List ByteArray) → List GDirective → ((Int × Int) × List GDirective) ⊕ (List GDirective × (Int × Int))
  | [], acc => .inl ((0, 0), acc)
  | x :: r, acc => bif decide ((parseB x.2).2 = 0) then parseS r (acc ++ [(parseB x.2).1]) else .inr ([], (x.1, (parseB x.2).2))
def parseR (R : List (Int × List ByteArray)) : List GDirective × (Int × Int) := match parseS R [] with
  | .inl o => (o.2, (0, 0))
  | .inr o => o
theorem parse_L0 (R : List (Int × List ByteArray)) (hR : R.length ≤ 1000000) (hs : ∀ x ∈ R, ∀ a ∈ x.2, a.size ≤ 9223372036854775807) : ∀ (n i k : Nat) (acc : List GDirective), i + n = R.length → n < k → acc.length ≤ i →
    text_Parse_L0 k ((0, 0), acc, R, Int.ofNat R.length, (i : Int)) = some (parseS (R.drop i) acc)
  | 0, i, k, acc, h, hk, ho => by
    obtain ⟨k, rfl⟩ : ∃ m, k = m + 1 := ⟨k - 1, by omega⟩
    rw [text_Parse_L0, lt_no (by omega), List.drop_eq_nil_of_le (by omega)]
    rfl
  | n + 1, i, k, acc, h, hk, ho => by
    obtain ⟨k, rfl⟩ : ∃ m, k = m + 1 := ⟨k - 1, by omega⟩
    have hi : i < R.length := by omega
    rw [text_Parse_L0, lt_yes hi, ge0, getD_nat _ _ hi, parse_sp k (hs R[i] (List.getElem_mem hi)), w64_succ (by omega), List.drop_eq_getElem_cons hi]
    simp only [cond_true, Option.bind_some, parseS]
    cases hd : decide ((parseB R[i].2).2 = 0) with
    | false => rfl
    | true =>
      simp only [Bool.not_true, cond_false, cond_true]
      rw [decide_eq_true (by simp; omega), cond_true, parse_L0 R hR hs n (i + 1) k _ (by omega) (by omega) (by simp; omega)]
theorem rowsF_len : ∀ (i : Int) (M : List (List UInt8)), (rowsF i M).length ≤ M.length
  | _, [] => Nat.le_refl _
  | i, x :: r => by
    have := rowsF_len (i + 1) r
    simp only [rowsF]
    cases (wordsL x).isEmpty <;> simp <;> omega
theorem rowsF_mem : ∀ (i : Int) (M : List (List UInt8)) (x : Int × List ByteArray), x ∈ rowsF i M → ∃ (j : Nat) (y : List UInt8), M[j]? = some y ∧ x = (i + (j : Int), (wordsL y).map ofL) ∧ wordsL y ≠ []
  | _, [], x, h => by cases h
  | i, y :: r, x, h => by
    simp only [rowsF] at h
    cases hw : (wordsL y).isEmpty with
    | true =>
      rw [hw] at h
      obtain ⟨j, z, h1, h2, h3⟩ := rowsF_mem (i + 1) r x h
      exact ⟨j + 1, z, by simpa using h1, by rw [h2]; simp; omega, h3⟩
    | false =>
      rw [hw] at h
      rcases List.mem_cons.1 h with rfl | h
      · exact ⟨0, y, rfl, by simp, by intro e; rw [e] at hw; simp at hw⟩
      · obtain ⟨j, z, h1, h2, h3⟩ := rowsF_mem (i + 1) r x h
        exact ⟨j + 1, z, by simpa using h1, by rw [h2]; simp; omega, h3⟩
theorem rowsT_size (s : List UInt8) (hs : s.length ≤ 900000) : ∀ x ∈ rowsT s, ∀ a ∈ x.2, a.size ≤ 900000 := by
  intro x hx a ha
  obtain ⟨j, y, h1, rfl, _⟩ := rowsF_mem 1 _ x hx
  obtain ⟨w, hw, rfl⟩ := List.mem_map.1 ha
  rw [ofL_size]
  have := words_size y w hw
  have := lines_each s y (List.mem_of_getElem? h1)
  omega
def parseT (s : List UInt8) : List GDirective × (Int × Int) := parseR (rowsT s)
theorem text_Parse_sp (k : Nat) {s : ByteArray} (hs : s.size ≤ 900000) (hk : s.size + 2 < k) : text_Parse k s = some (parseT s.data.toList) := by
  have e : s.data.toList.length = s.size := by rw [Array.length_toList]; rfl
  have h1 := lines_len s.data.toList
  have h2 : (rowsT s.data.toList).length ≤ (linesL s.data.toList).length := rowsF_len _ _
  unfold text_Parse
  rw [rows_sp k hs hk, Option.bind_some, show (0 : Int) = ((0 : Nat) : Int) from rfl]
  have := parse_L0 (rowsT s.data.toList) (by omega) (fun x hx a ha => by have := rowsT_size _ (by omega) x hx a ha; omega) (rowsT s.data.toList).length 0 k [] (by omega) (by omega) (by simp)
  rw [show ((0, 0) : Int × Int) = (((0 : Nat) : Int), ((0 : Nat) : Int)) from rfl] at this
  rw [this, List.drop_zero, Option.bind_some]
  unfold parseT parseR
  cases parseS (rowsT s.data.toList) [] <;> rfl
theorem lines_L0 (R : List (Int × List ByteArray)) (hR : R.length ≤ 1000000) : ∀ (n i k : Nat) (acc : List Int), i + n = R.length → n < k → acc.length ≤ i →
    text_Lines_L0 k (acc, R, Int.ofNat R.length, (i : Int)) = some (.inl (acc ++ (R.drop i).map (·.1)))
  | 0, i, k, acc, h, hk, ho => by
    obtain ⟨k, rfl⟩ : ∃ m, k = m + 1 := ⟨k - 1, by omega⟩
    rw [text_Lines_L0, lt_no (by omega), List.drop_eq_nil_of_le (by omega)]
    simp
  | n + 1, i, k, acc, h, hk, ho => by
    obtain ⟨k, rfl⟩ : ∃ m, k = m + 1 := ⟨k - 1, by omega⟩
    have hi : i < R.length := by omega
    rw [text_Lines_L0, lt_yes hi, ge0, getD_nat _ _ hi, w64_succ (by omega), List.drop_eq_getElem_cons hi]
    simp only [cond_true, List.map_cons]
    rw [decide_eq_true (by simp; omega), cond_true, lines_L0 R hR n (i + 1) k _ (by omega) (by omega) (by simp; omega)]
    simp
theorem text_Lines_sp (k : Nat) {s : ByteArray} (hs : s.size ≤ 900000) (hk : s.size + 2 < k) : text_Lines k s = some ((rowsT s.data.toList).map (·.1)) := by
  have e : s.data.toList.length = s.size := by rw [Array.length_toList]; rfl
  have h1 := lines_len s.data.toList
  have h2 : (rowsT s.data.toList).length ≤ (linesL s.data.toList).length := rowsF_len _ _
  unfold text_Lines
  rw [rows_sp k hs hk, Option.bind_some, show (0 : Int) = ((0 : Nat) : Int) from rfl, lines_L0 (rowsT s.data.toList) (by omega) (rowsT s.data.toList).length 0 k [] (by omega) (by omega) (by simp)]
  simp
end Go.Proofs.YthlhbnaloefncaaGreatDoor.Ex.Tx
namespace Go.Proofs.YthlhbnaloefncaaGreatDoor.Ex
open Go Go.RowKit Go.Proofs.YthlhbnaloefncaaGreatDoor.Wrd
set_option linter.unusedVariables false
set_option linter.unusedSimpArgs false
theorem right_rng {d : GDirective} (h : Tx.dR d = true) : rngD d := by
  obtain ⟨h1, h2, h3⟩ := Tx.dR_shape h
  have hp := Tx.dR_pair h
  obtain ⟨o, q, i, f, t, s, e, r, p, u, v, x, y⟩ := d
  simp only [fKsG, List.mem_cons, List.not_mem_nil, or_false, Prod.mk.injEq] at hp
  rcases hp with ⟨rfl, rfl⟩ | ⟨rfl, rfl⟩ | ⟨rfl, rfl⟩ | ⟨rfl, rfl⟩ | ⟨rfl, rfl⟩ | ⟨rfl, rfl⟩ <;>
    simp [Tx.vals, Tx.mkD] at h1 h2 <;> refine ⟨⟨⟨?_, ?_⟩, ⟨?_, ?_⟩⟩, ⟨⟨?_, ?_⟩, ⟨?_, ?_⟩⟩⟩ <;> simp only [dC, dR] <;> omega
theorem parseS_ok : ∀ (A : List (Int × List ByteArray)) (acc : List GDirective), (∀ d ∈ acc, Tx.dR d = true) → match Tx.parseS A acc with
    | .inl o => o.1 = (0, 0) ∧ o.2.length = acc.length + A.length ∧ ∀ d ∈ o.2, Tx.dR d = true
    | .inr o => o.2.2 ≠ 0
  | [], acc, ha => ⟨rfl, rfl, ha⟩
  | x :: r, acc, ha => by
    rw [Tx.parseS]
    rcases Tx.parse_cases x.2 with h | h | ⟨d, h, hd, _⟩
    · rw [h]; exact (by decide : (2 : Int) ≠ 0)
    · rw [h]; exact (by decide : (1 : Int) ≠ 0)
    · rw [h]
      have ih := parseS_ok r (acc ++ [d]) (fun y hy => by
        rcases List.mem_append.1 hy with hy | hy
        · exact ha y hy
        · rw [List.mem_singleton.1 hy]; exact hd)
      show match Tx.parseS r (acc ++ [d]) with | .inl o => _ | .inr o => _
      generalize Tx.parseS r (acc ++ [d]) = z at ih ⊢
      cases z with
      | inl o => exact ⟨ih.1, by rw [ih.2.1, List.length_append, List.length_singleton, List.length_cons]; omega, ih.2.2⟩
      | inr o => exact ih
theorem parseT_good {s : List UInt8} (h : (Tx.parseT s).2.2 = 0) : (Tx.parseT s).1.length = (Tx.rowsT s).length ∧ ∀ d ∈ (Tx.parseT s).1, Tx.dR d = true := by
  have := parseS_ok (Tx.rowsT s) [] (fun d hd => by cases hd)
  unfold Tx.parseT Tx.parseR at *
  generalize Tx.parseS (Tx.rowsT s) [] = z at this h ⊢
  cases z with
  | inl o => exact ⟨by simpa using this.2.1, this.2.2⟩
  | inr o => exact absurd h this
theorem rows_few (t : ByteArray) (ht : t.size ≤ 1000) : (Tx.rowsT t.data.toList).length ≤ 1001 := by
  have h1 := Tx.rowsF_len 1 (linesL t.data.toList)
  have h2 := Tx.lines_len t.data.toList
  have h3 : t.data.toList.length = t.size := by simp
  have h4 : (Tx.rowsT t.data.toList).length ≤ (linesL t.data.toList).length := h1
  omega
theorem getD_dir {l : List GDirective} {i : Nat} (h : i < l.length) : l.getD i (0, 0, 0, 0, 0, 0, 0, 0, 0, 0, 0, 0, 0) ∈ l := by rw [List.getD_eq_getElem?_getD, List.getElem?_eq_getElem h]; exact List.getElem_mem h
theorem Load_L0 {s : GState} (h : RightS s) (t : ByteArray) (ht : t.size ≤ 1000) (l : List GDirective) (hd : ∀ d ∈ l, rngD d) (hll : l.length = (Tx.rowsT t.data.toList).length) : ∀ (m i k : Nat) (x : GState), RightS x → s.2.2.1 ≤ x.2.2.1 → l.length - i = m → m + 30000 < k →
    (∃ f, state_Load_L0 k (t, s, zS, (0, 0), x, l, Int.ofNat l.length, (i : Int)) = some (.inr (s, f)) ∧ f.2 ≠ 0) ∨ ∃ q, state_Load_L0 k (t, s, zS, (0, 0), x, l, Int.ofNat l.length, (i : Int)) = some (.inl (zS, (0, 0), q)) ∧ RightS q ∧ s.2.2.1 ≤ q.2.2.1
  | 0, i, k + 1, x, hx, hc, hm, hk => by
    refine .inr ⟨x, ?_, hx, hc⟩
    simp only [state_Load_L0]
    rw [i_lt, decide_eq_false (by omega)]
    rfl
  | m + 1, i, k + 1, x, hx, hc, hm, hk => by
    have hf := rows_few t ht
    have hi : i < l.length := by omega
    obtain ⟨o, ho, hkp⟩ := Edit21_cases hx _ (hd _ (getD_dir hi)) k (by omega)
    simp only [state_Load_L0]
    rw [i_lt, decide_eq_true hi, decide_eq_true (Int.natCast_nonneg i), Int.toNat_natCast]
    simp only [cond_true, ho, Option.bind_some, h.copied k (by omega), Tx.text_Lines_sp k (s := t) (by omega) (by omega), i_lt, List.length_map, decide_eq_true (show i < (Tx.rowsT t.data.toList).length by omega)]
    rcases hkp with ⟨he, _⟩ | ⟨he, hq, hcl⟩
    · rw [decide_eq_false he]
      exact .inl ⟨_, rfl, he⟩
    · rw [decide_eq_true he, w64_succ (by omega)]
      exact Load_L0 h t ht l hd hll m (i + 1) k o.1 hq (by omega) (by omega) (by omega)
def KeepsF (s : GState) (o : GState × (Int × Int)) : Prop := (o.2.2 ≠ 0 ∧ o.1 = s) ∨ (o.2.2 = 0 ∧ RightS o.1 ∧ s.2.2.1 ≤ o.1.2.2.1)
theorem Load21_cases {s : GState} (h : RightS s) (t : ByteArray) (ht : t.size ≤ 1000) (k : Nat) (hk : 35000 < k) : ∃ o, state_Load k (s, t) = some o ∧ KeepsF s o := by
  unfold state_Load
  simp only [Tx.text_Parse_sp k (s := t) (by omega) (by omega), Option.bind_some, h.copied k (by omega)]
  by_cases he : (Tx.parseT t.data.toList).2.2 = 0
  · rw [decide_eq_true he]
    obtain ⟨g1, g2⟩ := parseT_good he
    have hf := rows_few t ht
    simp only [Bool.not_true, cond_false]
    rcases Load_L0 h t ht _ (fun d hd => right_rng (g2 d hd)) g1 _ 0 k s h (Int.le_refl _) rfl (by omega) with ⟨f, e, hf⟩ | ⟨q, e, hq, hc⟩
    · rw [Int.natCast_zero] at e
      exact ⟨(s, f), by rw [e]; rfl, .inl ⟨hf, rfl⟩⟩
    · rw [Int.natCast_zero] at e
      exact ⟨(q, 0, 0), by rw [e]; rfl, .inr ⟨rfl, hq, hc⟩⟩
  · rw [decide_eq_false he]
    exact ⟨_, rfl, .inl ⟨he, rfl⟩⟩
abbrev GAct := GFeluccalaw21Act
abbrev zA : GAct := (0, 0, 0, 0, 0, 0, 0, 0, 0, 0, 0, 0, 0, 0, (⟨#[]⟩ : ByteArray), 0, [], 0, 0)
def dA (x : GAct) : GDirective := (x.2.1, x.2.2.1, x.2.2.2.1, x.2.2.2.2.1, x.2.2.2.2.2.1, x.2.2.2.2.2.2.1, x.2.2.2.2.2.2.2.1, x.2.2.2.2.2.2.2.2.1, x.2.2.2.2.2.2.2.2.2.1, x.2.2.2.2.2.2.2.2.2.2.1, x.2.2.2.2.2.2.2.2.2.2.2.1, x.2.2.2.2.2.2.2.2.2.2.2.2.1, x.2.2.2.2.2.2.2.2.2.2.2.2.2.1)
def tA (x : GAct) : ByteArray := x.2.2.2.2.2.2.2.2.2.2.2.2.2.2.1
def iA (x : GAct) : List Int := x.2.2.2.2.2.2.2.2.2.2.2.2.2.2.2.2.1
theorem rngA {x : GAct} (h : okvT kGFeluccalaw21Act x) : rngD (dA x) := by
  simp only [okvT, SK.okv, Lit.wf, Bool.and_eq_true, decide_eq_true_eq] at h
  obtain ⟨_, _, _, _, _, _, h6, h7, _, _, _, h11, h12, _, _⟩ := h
  have e1 : IntKind.i64.min = -9223372036854775808 := by decide
  have e2 : IntKind.i64.max = 9223372036854775807 := by decide
  rw [e1, e2] at h6 h7 h11 h12
  exact ⟨⟨h6, h7⟩, ⟨h11, h12⟩⟩
theorem done_keeps {s : GState} (h : RightS s) {a : GAct} (ha : rngD (dA a)) (h1 : (tA a).size ≤ 1000) (h2 : (iA a).length ≤ 50) (k : Nat) (hk : 36000 < k) : ∃ o, feluccalaw21_done k (s, a) = some o ∧ KeepsF s o := by
  obtain ⟨o1, e1, k1⟩ := Edit21_cases h (dA a) ha k (by omega)
  obtain ⟨o2, e2, k2⟩ := Load21_cases h (tA a) h1 k (by omega)
  have e1' : state_Edit k (s, a.2.1, a.2.2.1, a.2.2.2.1, a.2.2.2.2.1, a.2.2.2.2.2.1, a.2.2.2.2.2.2.1, a.2.2.2.2.2.2.2.1, a.2.2.2.2.2.2.2.2.1, a.2.2.2.2.2.2.2.2.2.1, a.2.2.2.2.2.2.2.2.2.2.1, a.2.2.2.2.2.2.2.2.2.2.2.1, a.2.2.2.2.2.2.2.2.2.2.2.2.1, a.2.2.2.2.2.2.2.2.2.2.2.2.2.1) = some o1 := e1
  have e2' : state_Load k (s, a.2.2.2.2.2.2.2.2.2.2.2.2.2.2.1) = some o2 := e2
  have e3 : state_Advance k (s, a.2.2.2.2.2.2.2.2.2.2.2.2.2.2.2.1) = _ := Advance21_spec h _ k (by omega)
  have e4 : state_Book k (s, a.2.2.2.2.2.2.2.2.2.2.2.2.2.2.2.2) = _ := Book21_spec h (iA a) _ _ h2 k (by omega)
  have e5 : state_Release k (s, a.2.2.2.2.2.2.2.2.2.2.2.2.2.2.2.2) = _ := Release21_spec h (iA a) _ _ h2 k (by omega)
  have k3 := adv_keeps h a.2.2.2.2.2.2.2.2.2.2.2.2.2.2.2.1
  have k4 := book_keeps h (iA a) a.2.2.2.2.2.2.2.2.2.2.2.2.2.2.2.2.2.1 a.2.2.2.2.2.2.2.2.2.2.2.2.2.2.2.2.2.2
  have k5 := free_keeps h (iA a) a.2.2.2.2.2.2.2.2.2.2.2.2.2.2.2.2.2.1 a.2.2.2.2.2.2.2.2.2.2.2.2.2.2.2.2.2.2
  have up : ∀ {o : GState × Int}, Keeps s o → KeepsF s (o.1, 0, o.2) := fun hk => hk
  unfold feluccalaw21_done
  simp only [e1', e2', e3, e4, e5, Option.bind_some]
  by_cases c1 : a.1 = 1
  · rw [decide_eq_true c1]; exact ⟨_, rfl, up k1⟩
  rw [decide_eq_false c1]
  by_cases c2 : a.1 = 2
  · rw [decide_eq_true c2]; exact ⟨_, rfl, k2⟩
  rw [decide_eq_false c2]
  by_cases c3 : a.1 = 3
  · rw [decide_eq_true c3]; exact ⟨_, rfl, up k3⟩
  rw [decide_eq_false c3]
  by_cases c4 : a.1 = 4
  · rw [decide_eq_true c4]; exact ⟨_, rfl, up k4⟩
  rw [decide_eq_false c4]
  exact ⟨_, rfl, up k5⟩
theorem getD_act {l : List GAct} {i : Nat} (h : i < l.length) : l.getD i zA ∈ l := by rw [List.getD_eq_getElem?_getD, List.getElem?_eq_getElem h]; exact List.getElem_mem h
end Go.Proofs.YthlhbnaloefncaaGreatDoor.Ex
namespace Go.Proofs.YthlhbnaloefncaaGreatDoor.Ex
open Go
set_option linter.unusedVariables false
set_option maxHeartbeats 0
noncomputable def feluccalaw21_StateRight_c : Code := Tryz.f4.body.getD .skip
def feluccalaw21_StateRight_L0 : Nat → ((List GFeluccalaw21Act) × GState × Bool × Int) → Option ((Bool) ⊕ (Bool))
  | 0, _ => none
  | k + 1, (acts, s, head, i) =>
  bif decide (i < Int.ofNat (List.length acts)) then
    bif decide (0 ≤ i) then
      bif decide (i < Int.ofNat (List.length acts)) then
        bif decide (1000 < Int.ofNat (ByteArray.size (List.getD acts (Int.toNat i) (0, 0, 0, 0, 0, 0, 0, 0, 0, 0, 0, 0, 0, 0, (⟨#[]⟩ : ByteArray), 0, [], 0, 0)).2.2.2.2.2.2.2.2.2.2.2.2.2.2.1)) then
          bif head then
            some (Sum.inr true)
          else
            some (Sum.inr false)
        else
          bif decide (0 ≤ i) then
            bif decide (i < Int.ofNat (List.length acts)) then
              bif decide (50 < Int.ofNat (List.length (List.getD acts (Int.toNat i) (0, 0, 0, 0, 0, 0, 0, 0, 0, 0, 0, 0, 0, 0, (⟨#[]⟩ : ByteArray), 0, [], 0, 0)).2.2.2.2.2.2.2.2.2.2.2.2.2.2.2.2.1)) then
                bif head then
                  some (Sum.inr true)
                else
                  some (Sum.inr false)
              else
                bif decide (0 ≤ i) then
                  bif decide (i < Int.ofNat (List.length acts)) then
                    (feluccalaw21_done k (s, List.getD acts (Int.toNat i) (0, 0, 0, 0, 0, 0, 0, 0, 0, 0, 0, 0, 0, 0, (⟨#[]⟩ : ByteArray), 0, [], 0, 0))).bind fun o_10 =>
                      (state_Right k o_10.1).bind fun o_11 =>
                        bif o_11 then
                          bif !decide (o_10.2.2 = 0) then
                            (state_Same k (o_10.1, s)).bind fun o_14 =>
                              bif o_14 then
                                bif decide (o_10.1.2.2.1 < s.2.2.1) then
                                  some (Sum.inr false)
                                else
                                  feluccalaw21_StateRight_L0 k (acts, o_10.1, head, w64 (i + 1))
                              else
                                some (Sum.inr false)
                          else
                            bif decide (o_10.1.2.2.1 < s.2.2.1) then
                              some (Sum.inr false)
                            else
                              feluccalaw21_StateRight_L0 k (acts, o_10.1, head, w64 (i + 1))
                        else
                          some (Sum.inr false)
                  else
                    none
                else
                  none
            else
              none
          else
            none
      else
        none
    else
      none
  else
    some (Sum.inl head)
def feluccalaw21_StateRight (k : Nat) : (GState × (List GFeluccalaw21Act)) → Option (Bool) := fun (s, acts) =>
  (feluccalaw21_small k ()).bind fun o_1 =>
    bif o_1 then
      (feluccalaw21_Few k s).bind fun o_3 =>
        bif o_3 then
          bif decide (50 < Int.ofNat (List.length acts)) then
            some (true)
          else
            (state_Right k s).bind fun o_6 =>
              bif o_6 then
                (feluccalaw21_StateRight_L0 k (acts, s, true, 0)).bind fun o_8 =>
                  match o_8 with
                  | .inl o_9 =>
                    bif o_9 then
                      some (true)
                    else
                      some (false)
                  | .inr o_9 =>
                    some (o_9)
              else
                some (true)
        else
          some (true)
    else
      (feluccalaw21_Few k s).bind fun o_3 =>
        bif o_3 then
          bif decide (50 < Int.ofNat (List.length acts)) then
            some (false)
          else
            (state_Right k s).bind fun o_6 =>
              bif o_6 then
                (feluccalaw21_StateRight_L0 k (acts, s, false, 0)).bind fun o_8 =>
                  match o_8 with
                  | .inl o_9 =>
                    bif o_9 then
                      some (true)
                    else
                      some (false)
                  | .inr o_9 =>
                    some (o_9)
              else
                some (false)
        else
          some (false)
noncomputable def feluccalaw21_StateRight_X : Cx Tryz.prog [.one (.sc (.bool))] := ⟨fun k => ⟨[feluccalaw21_small_e k, feluccalaw21_Few_e k, state_Right_e k, state_Same_e k, feluccalaw21_done_e k], [], [hkStr Tryz.prog]⟩, Tryz.f4.ntmps, Tryz.f4.results, [some ⟨0, [(1, .one (.ro kGFeluccalaw21Act)), (2, .box 28 trGState), (5, .one (.sc (.bool))), (7, .one (.sc (.int .i64)))], [(5, .one (.sc (.bool)))], feluccalaw21_StateRight_L0⟩]⟩
theorem feluccalaw21_StateRight_L0_eq (k : Nat) (x : (List GFeluccalaw21Act) × GState × Bool × Int) : feluccalaw21_StateRight_L0 (k + 1) x = roundF feluccalaw21_StateRight_X k ⟨0, [(1, .one (.ro kGFeluccalaw21Act)), (2, .box 28 trGState), (5, .one (.sc (.bool))), (7, .one (.sc (.int .i64)))], [(5, .one (.sc (.bool)))], feluccalaw21_StateRight_L0⟩ 0 (lp feluccalaw21_StateRight_c 0) x := by kernel_rfl
theorem feluccalaw21_StateRight_eq (k : Nat) (x : GState × (List GFeluccalaw21Act)) : feluccalaw21_StateRight k x = runF feluccalaw21_StateRight_X k feluccalaw21_StateRight_c [.agg lGState, .one (.row 41 kGFeluccalaw21Act)] x := by kernel_rfl
noncomputable def feluccalaw21_StateRight_e (k : Nat) : Ent Tryz.prog := ⟨4, [.agg lGState, .one (.row 41 kGFeluccalaw21Act)], [.one (.sc (.bool))], feluccalaw21_StateRight k, calls_of (X := feluccalaw21_StateRight_X) (k := k) (c := feluccalaw21_StateRight_c) Tryz.func4 (by kernel_rfl) (by kernel_rfl) (by kernel_rfl) (LoopEqs.all (show LoopEqs feluccalaw21_StateRight_X feluccalaw21_StateRight_c feluccalaw21_StateRight_X.L 0 from ⟨⟨fun _ => rfl, fun k x => feluccalaw21_StateRight_L0_eq k x⟩, trivial⟩)) (fun x => feluccalaw21_StateRight_eq k x), fun _ _ => by kernel_rfl⟩
end Go.Proofs.YthlhbnaloefncaaGreatDoor.Ex
namespace Go.Proofs.YthlhbnaloefncaaGreatDoor.Ex
open Go
set_option linter.unusedVariables false
set_option linter.unusedSimpArgs false
theorem lt1000 (a : GAct) : decide (1000 < Int.ofNat (ByteArray.size (tA a))) = decide (1000 < (tA a).size) := by
  rw [Bool.eq_iff_iff]; simp only [decide_eq_true_eq]; show ((1000 : Int) < ((tA a).size : Int)) ↔ _; omega
theorem lt50 (l : List Int) : decide (50 < Int.ofNat l.length) = decide (50 < l.length) := by
  rw [Bool.eq_iff_iff]; simp only [decide_eq_true_eq]; show ((50 : Int) < (l.length : Int)) ↔ _; omega
theorem Right_L0 (acts : List GAct) (ha : ∀ a ∈ acts, okvT kGFeluccalaw21Act a) (hl : acts.length ≤ 50) : ∀ (m i k : Nat) (s : GState), RightS s → acts.length - i = m → m + 40000 < k → (feluccalaw21_StateRight_L0 k (acts, s, true, (i : Int)) = some (.inl true) ∨ feluccalaw21_StateRight_L0 k (acts, s, true, (i : Int)) = some (.inr true))
  | 0, i, k + 1, s, h, hm, hk => by
    left
    simp only [feluccalaw21_StateRight_L0]
    rw [i_lt, decide_eq_false (by omega)]
    rfl
  | m + 1, i, k + 1, s, h, hm, hk => by
    have hi : i < acts.length := by omega
    have ha1 := ha _ (getD_act hi)
    have et : ∀ a : GAct, a.2.2.2.2.2.2.2.2.2.2.2.2.2.2.1 = tA a := fun _ => rfl
    have ei : ∀ a : GAct, a.2.2.2.2.2.2.2.2.2.2.2.2.2.2.2.2.1 = iA a := fun _ => rfl
    simp only [feluccalaw21_StateRight_L0]
    rw [i_lt, decide_eq_true hi, decide_eq_true (Int.natCast_nonneg i), Int.toNat_natCast]
    simp only [cond_true, et, ei, lt1000, lt50]
    by_cases g1 : 1000 < (tA (acts.getD i zA)).size
    · rw [decide_eq_true g1]; exact .inr rfl
    rw [decide_eq_false g1]
    by_cases g2 : 50 < (iA (acts.getD i zA)).length
    · rw [decide_eq_true g2]; exact .inr rfl
    rw [decide_eq_false g2]
    obtain ⟨o, ho, hkp⟩ := done_keeps h (rngA ha1) (by omega) (by omega) k (by omega)
    simp only [cond_false, ho, Option.bind_some]
    rcases hkp with ⟨he, e⟩ | ⟨he, hq, hc⟩
    · rw [e]
      simp only [h.true k (by omega), h.same s k (by omega), Option.bind_some, cond_true, decide_eq_false he, Bool.not_false, decide_true, decide_eq_false (show ¬ s.2.2.1 < s.2.2.1 by omega), cond_false]
      rw [w64_succ (by omega)]
      exact Right_L0 acts ha hl m (i + 1) k s h (by omega) (by omega)
    · simp only [hq.true k (by omega), Option.bind_some, cond_true, decide_eq_true he, Bool.not_true, cond_false, decide_eq_false (show ¬ o.1.2.2.1 < s.2.2.1 by omega)]
      rw [w64_succ (by omega)]
      exact Right_L0 acts ha hl m (i + 1) k o.1 hq (by omega) (by omega)
theorem StateRight_pure (s : GState) (g1 : ∀ c ∈ s.1, okvT kGContact c) (g2 : ∀ r ∈ s.2.1, okvT kGRange r) (acts : List GAct) (g3 : ∀ a ∈ acts, okvT kGFeluccalaw21Act a) : ∃ k, feluccalaw21_StateRight k (s, acts) = some true := by
  refine ⟨45000, ?_⟩
  unfold feluccalaw21_StateRight
  simp only [small21, Few21_spec, Option.bind_some, cond_true]
  by_cases few : s.1.length ≤ 50 ∧ s.2.1.length ≤ 50 ∧ (bk s).length ≤ 50
  · rw [decide_eq_true few]
    simp only [cond_true]
    by_cases hi : acts.length ≤ 50
    · have c1 : decide (50 < Int.ofNat acts.length) = false := decide_eq_false (by show ¬ (50 : Int) < (acts.length : Int); omega)
      rw [c1]
      obtain ⟨b, hb, hr⟩ := StateRight_spec s 45000 (by omega) (by omega) (by omega) (fun c hc => rng_of (g1 c hc)) (fun r hr => rngR_of (g2 r hr)) (by omega)
      simp only [cond_false, hb, Option.bind_some]
      cases b with
      | false => rfl
      | true =>
        have := Right_L0 acts g3 hi acts.length 0 45000 s (hr.1 rfl) rfl (by omega)
        rw [Int.natCast_zero] at this
        rcases this with e | e <;> simp only [cond_true, e, Option.bind_some]
    · have c1 : decide (50 < Int.ofNat acts.length) = true := decide_eq_true (by show (50 : Int) < (acts.length : Int); omega)
      rw [c1]; rfl
  · rw [decide_eq_false few]; rfl
end Go.Proofs.YthlhbnaloefncaaGreatDoor.Ex
namespace Go.Proofs.YthlhbnaloefncaaGreatDoor.Ex
open Go
set_option linter.unusedVariables false
set_option maxHeartbeats 0
noncomputable def feluccalaw21_StateBounds_c : Code := Tryz.f7.body.getD .skip
def feluccalaw21_StateBounds_L0 : Nat → ((List GFeluccalaw21Act) × Int × GState × Bool × Int) → Option ((Bool) ⊕ (Bool))
  | 0, _ => none
  | k + 1, (acts, id, s, head, i) =>
  bif decide (i < Int.ofNat (List.length acts)) then
    bif decide (0 ≤ i) then
      bif decide (i < Int.ofNat (List.length acts)) then
        bif decide (1000 < Int.ofNat (ByteArray.size (List.getD acts (Int.toNat i) (0, 0, 0, 0, 0, 0, 0, 0, 0, 0, 0, 0, 0, 0, (⟨#[]⟩ : ByteArray), 0, [], 0, 0)).2.2.2.2.2.2.2.2.2.2.2.2.2.2.1)) then
          bif head then
            some (Sum.inr true)
          else
            some (Sum.inr false)
        else
          bif decide (0 ≤ i) then
            bif decide (i < Int.ofNat (List.length acts)) then
              bif decide (50 < Int.ofNat (List.length (List.getD acts (Int.toNat i) (0, 0, 0, 0, 0, 0, 0, 0, 0, 0, 0, 0, 0, 0, (⟨#[]⟩ : ByteArray), 0, [], 0, 0)).2.2.2.2.2.2.2.2.2.2.2.2.2.2.2.2.1)) then
                bif head then
                  some (Sum.inr true)
                else
                  some (Sum.inr false)
              else
                bif decide (0 ≤ i) then
                  bif decide (i < Int.ofNat (List.length acts)) then
                    (feluccalaw21_done k (s, List.getD acts (Int.toNat i) (0, 0, 0, 0, 0, 0, 0, 0, 0, 0, 0, 0, 0, 0, (⟨#[]⟩ : ByteArray), 0, [], 0, 0))).bind fun o_10 =>
                      (contacts_Find k (o_10.1.1, id)).bind fun o_11 =>
                        bif o_11.2 then
                          (ledger_Used k (o_10.1.2.2.2.2, id)).bind fun o_13 =>
                            (check_Volume k o_11.1).bind fun o_14 =>
                              bif decide (o_14 < o_13.1) then
                                some (Sum.inr false)
                              else
                                bif decide (o_14 < o_13.2.1) then
                                  some (Sum.inr false)
                                else
                                  bif decide (o_14 < o_13.2.2) then
                                    some (Sum.inr false)
                                  else
                                    bif decide (o_13.1 < 0) then
                                      some (Sum.inr false)
                                    else
                                      bif decide (o_13.2.1 < 0) then
                                        some (Sum.inr false)
                                      else
                                        bif decide (o_13.2.2 < 0) then
                                          some (Sum.inr false)
                                        else
                                          (ledger_Room k (o_10.1.2.2.2.2, o_11.1, 2)).bind fun o_21 =>
                                            bif !decide (o_21 = w64 (o_14 - o_13.2.2)) then
                                              some (Sum.inr false)
                                            else
                                              feluccalaw21_StateBounds_L0 k (acts, id, o_10.1, head, w64 (i + 1))
                        else
                          (ledger_Used k (o_10.1.2.2.2.2, id)).bind fun o_13 =>
                            (check_Volume k o_11.1).bind fun o_14 =>
                              bif !(o_13.1 == 0 && (o_13.2.1 == 0 && o_13.2.2 == 0)) then
                                some (Sum.inr false)
                              else
                                bif decide (o_14 < o_13.1) then
                                  some (Sum.inr false)
                                else
                                  bif decide (o_14 < o_13.2.1) then
                                    some (Sum.inr false)
                                  else
                                    bif decide (o_14 < o_13.2.2) then
                                      some (Sum.inr false)
                                    else
                                      bif decide (o_13.1 < 0) then
                                        some (Sum.inr false)
                                      else
                                        bif decide (o_13.2.1 < 0) then
                                          some (Sum.inr false)
                                        else
                                          bif decide (o_13.2.2 < 0) then
                                            some (Sum.inr false)
                                          else
                                            (ledger_Room k (o_10.1.2.2.2.2, o_11.1, 2)).bind fun o_22 =>
                                              bif !decide (o_22 = w64 (o_14 - o_13.2.2)) then
                                                some (Sum.inr false)
                                              else
                                                feluccalaw21_StateBounds_L0 k (acts, id, o_10.1, head, w64 (i + 1))
                  else
                    none
                else
                  none
            else
              none
          else
            none
      else
        none
    else
      none
  else
    some (Sum.inl head)
def feluccalaw21_StateBounds (k : Nat) : (GState × (List GFeluccalaw21Act) × Int) → Option (Bool) := fun (s, acts, id) =>
  (feluccalaw21_small k ()).bind fun o_1 =>
    bif o_1 then
      (feluccalaw21_Few k s).bind fun o_3 =>
        bif o_3 then
          bif decide (50 < Int.ofNat (List.length acts)) then
            some (true)
          else
            (state_Right k s).bind fun o_6 =>
              bif o_6 then
                (feluccalaw21_StateBounds_L0 k (acts, id, s, true, 0)).bind fun o_8 =>
                  match o_8 with
                  | .inl o_9 =>
                    bif o_9 then
                      some (true)
                    else
                      some (false)
                  | .inr o_9 =>
                    some (o_9)
              else
                some (true)
        else
          some (true)
    else
      (feluccalaw21_Few k s).bind fun o_3 =>
        bif o_3 then
          bif decide (50 < Int.ofNat (List.length acts)) then
            some (false)
          else
            (state_Right k s).bind fun o_6 =>
              bif o_6 then
                (feluccalaw21_StateBounds_L0 k (acts, id, s, false, 0)).bind fun o_8 =>
                  match o_8 with
                  | .inl o_9 =>
                    bif o_9 then
                      some (true)
                    else
                      some (false)
                  | .inr o_9 =>
                    some (o_9)
              else
                some (false)
        else
          some (false)
noncomputable def feluccalaw21_StateBounds_X : Cx Tryz.prog [.one (.sc (.bool))] := ⟨fun k => ⟨[feluccalaw21_small_e k, feluccalaw21_Few_e k, state_Right_e k, feluccalaw21_done_e k, contacts_Find_e k, ledger_Room_e k, ledger_Used_e k, check_Volume_e k], [], [hkStr Tryz.prog]⟩, Tryz.f7.ntmps, Tryz.f7.results, [some ⟨0, [(1, .one (.ro kGFeluccalaw21Act)), (2, .one (.sc (.int .i64))), (3, .box 28 trGState), (7, .one (.sc (.bool))), (9, .one (.sc (.int .i64)))], [(7, .one (.sc (.bool)))], feluccalaw21_StateBounds_L0⟩]⟩
theorem feluccalaw21_StateBounds_L0_eq (k : Nat) (x : (List GFeluccalaw21Act) × Int × GState × Bool × Int) : feluccalaw21_StateBounds_L0 (k + 1) x = roundF feluccalaw21_StateBounds_X k ⟨0, [(1, .one (.ro kGFeluccalaw21Act)), (2, .one (.sc (.int .i64))), (3, .box 28 trGState), (7, .one (.sc (.bool))), (9, .one (.sc (.int .i64)))], [(7, .one (.sc (.bool)))], feluccalaw21_StateBounds_L0⟩ 0 (lp feluccalaw21_StateBounds_c 0) x := by kernel_rfl
theorem feluccalaw21_StateBounds_eq (k : Nat) (x : GState × (List GFeluccalaw21Act) × Int) : feluccalaw21_StateBounds k x = runF feluccalaw21_StateBounds_X k feluccalaw21_StateBounds_c [.agg lGState, .one (.row 41 kGFeluccalaw21Act), .one (.sc (.int .i64))] x := by kernel_rfl
noncomputable def feluccalaw21_StateBounds_e (k : Nat) : Ent Tryz.prog := ⟨7, [.agg lGState, .one (.row 41 kGFeluccalaw21Act), .one (.sc (.int .i64))], [.one (.sc (.bool))], feluccalaw21_StateBounds k, calls_of (X := feluccalaw21_StateBounds_X) (k := k) (c := feluccalaw21_StateBounds_c) Tryz.func7 (by kernel_rfl) (by kernel_rfl) (by kernel_rfl) (LoopEqs.all (show LoopEqs feluccalaw21_StateBounds_X feluccalaw21_StateBounds_c feluccalaw21_StateBounds_X.L 0 from ⟨⟨fun _ => rfl, fun k x => feluccalaw21_StateBounds_L0_eq k x⟩, trivial⟩)) (fun x => feluccalaw21_StateBounds_eq k x), fun _ _ => by kernel_rfl⟩
end Go.Proofs.YthlhbnaloefncaaGreatDoor.Ex
namespace Go.Proofs.YthlhbnaloefncaaGreatDoor.Ex
open Go
set_option linter.unusedVariables false
set_option linter.unusedSimpArgs false
theorem keepsF_right {s : GState} (h : RightS s) {o : GState × (Int × Int)} (hk : KeepsF s o) : RightS o.1 := by
  rcases hk with ⟨_, e⟩ | ⟨_, e, _⟩
  · rw [e]; exact h
  · exact e
theorem used_0 {l : List GBooked} (h : RightL l) : usedL l 0 = z3 := usedL_none fun b hb e => by have := (h.1 b hb).1; omega
theorem room_2 {u : T48} (hu : okU u) {c : GContact} (hw : withinU u c) : roomL u c 2 = volC c - u.2.2 := by
  obtain ⟨_, _, u3⟩ := hu
  obtain ⟨_, _, w3⟩ := hw
  have hv := vol_62 c
  have hc : clsB 2 = true := by decide
  unfold roomL
  rw [if_pos hc]
  unfold In62 at *
  unfold backL satB
  simp only [show ¬ (2 : Int) = 0 by omega, show ¬ (2 : Int) = 1 by omega, if_false]
  omega
theorem Bounds_L0 (acts : List GAct) (id : Int) (ha : ∀ a ∈ acts, okvT kGFeluccalaw21Act a) (hl : acts.length ≤ 50) : ∀ (m i k : Nat) (s : GState), RightS s → acts.length - i = m → m + 40000 < k → (feluccalaw21_StateBounds_L0 k (acts, id, s, true, (i : Int)) = some (.inl true) ∨ feluccalaw21_StateBounds_L0 k (acts, id, s, true, (i : Int)) = some (.inr true))
  | 0, i, k + 1, s, h, hm, hk => by
    left
    simp only [feluccalaw21_StateBounds_L0]
    rw [i_lt, decide_eq_false (by omega)]
    rfl
  | m + 1, i, k + 1, s, h, hm, hk => by
    have hi : i < acts.length := by omega
    have ha1 := ha _ (getD_act hi)
    have et : ∀ a : GAct, a.2.2.2.2.2.2.2.2.2.2.2.2.2.2.1 = tA a := fun _ => rfl
    have ei : ∀ a : GAct, a.2.2.2.2.2.2.2.2.2.2.2.2.2.2.2.2.1 = iA a := fun _ => rfl
    simp only [feluccalaw21_StateBounds_L0]
    rw [i_lt, decide_eq_true hi, decide_eq_true (Int.natCast_nonneg i), Int.toNat_natCast]
    simp only [cond_true, et, ei, lt1000, lt50]
    by_cases g1 : 1000 < (tA (acts.getD i zA)).size
    · rw [decide_eq_true g1]; exact .inr rfl
    rw [decide_eq_false g1]
    by_cases g2 : 50 < (iA (acts.getD i zA)).length
    · rw [decide_eq_true g2]; exact .inr rfl
    rw [decide_eq_false g2]
    obtain ⟨o, ho, hkp⟩ := done_keeps h (rngA ha1) (by omega) (by omega) k (by omega)
    have hq := keepsF_right h hkp
    have hlen := hq.len
    have ih := Bounds_L0 acts id ha hl m (i + 1) k o.1 hq (by omega) (by omega)
    have hcr := find_rng hq.t.rng id
    have hu := usedL_ok hq.2.1 id
    have hfd := contacts_Find_spec o.1.1 id k (by omega) (by omega)
    have hus : ledger_Used k (o.1.2.2.2.2, id) = some (usedL (bk o.1) id) := Used_spec (bk o.1) id k (by omega) hq.2.1.2 (by omega)
    have hvo := Volume_spec k (findC o.1.1 id).1 hcr
    have hrm : ledger_Room k (o.1.2.2.2.2, (findC o.1.1 id).1, 2) = some (roomL (usedL (bk o.1) (findC o.1.1 id).1.1) (findC o.1.1 id).1 2) := Room_spec (bk o.1) _ 2 k (by omega) hq.2.1 hcr (by omega)
    have hv := vol_62 (findC o.1.1 id).1
    obtain ⟨u1, u2, u3⟩ := hu
    have hw := covers_within hq.2.2 id
    obtain ⟨w1, w2, w3⟩ := hw
    unfold In62 at u1 u2 u3 hv
    simp only [cond_false, ho, Option.bind_some, hfd, hus, hvo, hrm, w64_succ (show i < 4611686018427387904 by omega),
      decide_eq_false (show ¬ volC (findC o.1.1 id).1 < (usedL (bk o.1) id).1 by omega), decide_eq_false (show ¬ volC (findC o.1.1 id).1 < (usedL (bk o.1) id).2.1 by omega), decide_eq_false (show ¬ volC (findC o.1.1 id).1 < (usedL (bk o.1) id).2.2 by omega),
      decide_eq_false (show ¬ (usedL (bk o.1) id).1 < 0 by omega), decide_eq_false (show ¬ (usedL (bk o.1) id).2.1 < 0 by omega), decide_eq_false (show ¬ (usedL (bk o.1) id).2.2 < 0 by omega), w64_id (show -9223372036854775808 ≤ volC (findC o.1.1 id).1 - (usedL (bk o.1) id).2.2 by omega) (show volC (findC o.1.1 id).1 - (usedL (bk o.1) id).2.2 ≤ 9223372036854775807 by omega), nz_spec]
    cases hf : (findC o.1.1 id).2 with
    | true =>
      rw [findC_id hf, room_2 (usedL_ok hq.2.1 id) ⟨w1, w2, w3⟩, decide_eq_true rfl]
      exact ih
    | false =>
      have hz : usedL (bk o.1) id = z3 := Decidable.byContradiction fun hne => by
        have := (hq.2.2 id hne).1
        rw [hf] at this
        cases this
      have hz0 : (findC o.1.1 id).1 = z28 := by rw [(findC_false hf).1]
      have e0 : (findC o.1.1 id).1.1 = 0 := by rw [hz0]
      have hw0 : withinU z3 (findC o.1.1 id).1 := within_z3 _
      rw [e0, used_0 hq.2.1, room_2 (by unfold okU In62; simp only; omega) hw0, hz, decide_eq_true rfl, decide_eq_true rfl]
      exact ih
theorem StateBounds_pure (s : GState) (g1 : ∀ c ∈ s.1, okvT kGContact c) (g2 : ∀ r ∈ s.2.1, okvT kGRange r) (acts : List GAct) (g3 : ∀ a ∈ acts, okvT kGFeluccalaw21Act a) (id : Int) : ∃ k, feluccalaw21_StateBounds k (s, acts, id) = some true := by
  refine ⟨45000, ?_⟩
  unfold feluccalaw21_StateBounds
  simp only [small21, Few21_spec, Option.bind_some, cond_true]
  by_cases few : s.1.length ≤ 50 ∧ s.2.1.length ≤ 50 ∧ (bk s).length ≤ 50
  · rw [decide_eq_true few]
    simp only [cond_true]
    by_cases hi : acts.length ≤ 50
    · have c1 : decide (50 < Int.ofNat acts.length) = false := decide_eq_false (by show ¬ (50 : Int) < (acts.length : Int); omega)
      rw [c1]
      obtain ⟨b, hb, hr⟩ := StateRight_spec s 45000 (by omega) (by omega) (by omega) (fun c hc => rng_of (g1 c hc)) (fun r hr => rngR_of (g2 r hr)) (by omega)
      simp only [cond_false, hb, Option.bind_some]
      cases b with
      | false => rfl
      | true =>
        have := Bounds_L0 acts id g3 hi acts.length 0 45000 s (hr.1 rfl) rfl (by omega)
        rw [Int.natCast_zero] at this
        rcases this with e | e <;> simp only [cond_true, e, Option.bind_some]
    · have c1 : decide (50 < Int.ofNat acts.length) = true := decide_eq_true (by show (50 : Int) < (acts.length : Int); omega)
      rw [c1]; rfl
  · rw [decide_eq_false few]; rfl
end Go.Proofs.YthlhbnaloefncaaGreatDoor.Ex
namespace Go.Proofs.YthlhbnaloefncaaGreatDoor.Ex
open Go
set_option linter.unusedVariables false
set_option maxHeartbeats 0
noncomputable def feluccalaw21_StateLoads_c : Code := Tryz.f6.body.getD .skip
def feluccalaw21_StateLoads_L0 : Nat → (GState × Bool × GState × (Int × Int) × (List GDirective) × (List Int) × GState × Int) → Option ((Bool × GState × (Int × Int) × GState) ⊕ (Bool))
  | 0, _ => none
  | k + 1, (s, head, a, f, l, n, x12, i) =>
  bif decide (i < Int.ofNat (List.length l)) then
    bif decide (0 ≤ i) then
      bif decide (i < Int.ofNat (List.length l)) then
        (state_Edit k (x12, List.getD l (Int.toNat i) (0, 0, 0, 0, 0, 0, 0, 0, 0, 0, 0, 0, 0))).bind fun o_4 =>
          bif !decide (o_4.2 = 0) then
            bif head then
              bif decide (0 ≤ i) then
                bif decide (i < Int.ofNat (List.length n)) then
                  bif f.1 == List.getD n (Int.toNat i) 0 && f.2 == o_4.2 then
                    (state_Same k (a, s)).bind fun o_10 =>
                      bif o_10 then
                        some (Sum.inr true)
                      else
                        some (Sum.inr false)
                  else
                    some (Sum.inr false)
                else
                  none
              else
                none
            else
              some (Sum.inr false)
          else
            feluccalaw21_StateLoads_L0 k (s, head, a, f, l, n, o_4.1, w64 (i + 1))
      else
        none
    else
      none
  else
    some (Sum.inl (head, a, f, x12))
def feluccalaw21_StateLoads (k : Nat) : (GState × ByteArray) → Option (Bool) := fun (s, t) =>
  (feluccalaw21_small k ()).bind fun o_1 =>
    bif o_1 then
      (feluccalaw21_Few k s).bind fun o_3 =>
        bif o_3 then
          bif decide (1000 < Int.ofNat (ByteArray.size t)) then
            some (true)
          else
            (state_Right k s).bind fun o_6 =>
              bif o_6 then
                (state_Load k (s, t)).bind fun o_8 =>
                  (text_Parse k t).bind fun o_9 =>
                    (text_Lines k t).bind fun o_10 =>
                      bif !decide (o_9.2.2 = 0) then
                        bif o_8.2.1 == o_9.2.1 && o_8.2.2 == o_9.2.2 then
                          (state_Same k (o_8.1, s)).bind fun o_13 =>
                            bif o_13 then
                              some (true)
                            else
                              some (false)
                        else
                          some (false)
                      else
                        bif !decide (Int.ofNat (List.length o_9.1) = Int.ofNat (List.length o_10)) then
                          some (false)
                        else
                          (feluccalaw21_StateLoads_L0 k (s, true, o_8.1, o_8.2, o_9.1, o_10, s, 0)).bind fun o_13 =>
                            match o_13 with
                            | .inl o_14 =>
                              bif o_14.1 then
                                bif o_14.2.2.1.1 == 0 && o_14.2.2.1.2 == 0 then
                                  (state_Same k (o_14.2.1, o_14.2.2.2)).bind fun o_17 =>
                                    bif o_17 then
                                      some (true)
                                    else
                                      some (false)
                                else
                                  some (false)
                              else
                                some (false)
                            | .inr o_14 =>
                              some (o_14)
              else
                some (true)
        else
          some (true)
    else
      (feluccalaw21_Few k s).bind fun o_3 =>
        bif o_3 then
          bif decide (1000 < Int.ofNat (ByteArray.size t)) then
            some (false)
          else
            (state_Right k s).bind fun o_6 =>
              bif o_6 then
                (state_Load k (s, t)).bind fun o_8 =>
                  (text_Parse k t).bind fun o_9 =>
                    (text_Lines k t).bind fun o_10 =>
                      bif !decide (o_9.2.2 = 0) then
                        some (false)
                      else
                        bif !decide (Int.ofNat (List.length o_9.1) = Int.ofNat (List.length o_10)) then
                          some (false)
                        else
                          (feluccalaw21_StateLoads_L0 k (s, false, o_8.1, o_8.2, o_9.1, o_10, s, 0)).bind fun o_13 =>
                            match o_13 with
                            | .inl o_14 =>
                              bif o_14.1 then
                                bif o_14.2.2.1.1 == 0 && o_14.2.2.1.2 == 0 then
                                  (state_Same k (o_14.2.1, o_14.2.2.2)).bind fun o_17 =>
                                    bif o_17 then
                                      some (true)
                                    else
                                      some (false)
                                else
                                  some (false)
                              else
                                some (false)
                            | .inr o_14 =>
                              some (o_14)
              else
                some (false)
        else
          some (false)
noncomputable def feluccalaw21_StateLoads_X : Cx Tryz.prog [.one (.sc (.bool))] := ⟨fun k => ⟨[feluccalaw21_small_e k, feluccalaw21_Few_e k, state_Right_e k, state_Same_e k, state_Load_e k, text_Parse_e k, text_Lines_e k, state_Edit_e k], [], [hkStr Tryz.prog]⟩, Tryz.f6.ntmps, Tryz.f6.results, [some ⟨0, [(2, .box 28 trGState), (5, .one (.sc (.bool))), (7, .box 28 toGState), (8, .box 45 [.sc (.int .i64), .sc (.int .i64)]), (9, .one (.own 38 kGDirective)), (11, .one (.own 3 [.int .i64])), (12, .box 28 trGState), (13, .one (.sc (.int .i64)))], [(5, .one (.sc (.bool))), (7, .box 28 toGState), (8, .box 45 [.sc (.int .i64), .sc (.int .i64)]), (12, .box 28 trGState)], feluccalaw21_StateLoads_L0⟩]⟩
theorem feluccalaw21_StateLoads_L0_eq (k : Nat) (x : GState × Bool × GState × (Int × Int) × (List GDirective) × (List Int) × GState × Int) : feluccalaw21_StateLoads_L0 (k + 1) x = roundF feluccalaw21_StateLoads_X k ⟨0, [(2, .box 28 trGState), (5, .one (.sc (.bool))), (7, .box 28 toGState), (8, .box 45 [.sc (.int .i64), .sc (.int .i64)]), (9, .one (.own 38 kGDirective)), (11, .one (.own 3 [.int .i64])), (12, .box 28 trGState), (13, .one (.sc (.int .i64)))], [(5, .one (.sc (.bool))), (7, .box 28 toGState), (8, .box 45 [.sc (.int .i64), .sc (.int .i64)]), (12, .box 28 trGState)], feluccalaw21_StateLoads_L0⟩ 0 (lp feluccalaw21_StateLoads_c 0) x := by kernel_rfl
theorem feluccalaw21_StateLoads_eq (k : Nat) (x : GState × ByteArray) : feluccalaw21_StateLoads k x = runF feluccalaw21_StateLoads_X k feluccalaw21_StateLoads_c [.agg lGState, .one (.sc (.str))] x := by kernel_rfl
noncomputable def feluccalaw21_StateLoads_e (k : Nat) : Ent Tryz.prog := ⟨6, [.agg lGState, .one (.sc (.str))], [.one (.sc (.bool))], feluccalaw21_StateLoads k, calls_of (X := feluccalaw21_StateLoads_X) (k := k) (c := feluccalaw21_StateLoads_c) Tryz.func6 (by kernel_rfl) (by kernel_rfl) (by kernel_rfl) (LoopEqs.all (show LoopEqs feluccalaw21_StateLoads_X feluccalaw21_StateLoads_c feluccalaw21_StateLoads_X.L 0 from ⟨⟨fun _ => rfl, fun k x => feluccalaw21_StateLoads_L0_eq k x⟩, trivial⟩)) (fun x => feluccalaw21_StateLoads_eq k x), fun _ _ => by kernel_rfl⟩
end Go.Proofs.YthlhbnaloefncaaGreatDoor.Ex
namespace Go.Proofs.YthlhbnaloefncaaGreatDoor.Ex
open Go
set_option linter.unusedVariables false
set_option linter.unusedSimpArgs false
theorem Loads_L0 {s : GState} (h : RightS s) (t : ByteArray) (ht : t.size ≤ 1000) (l : List GDirective) (hd : ∀ d ∈ l, rngD d) (hll : l.length = (Tx.rowsT t.data.toList).length) : ∀ (m i k : Nat) (x : GState), RightS x → l.length - i = m → m + 30000 < k →
    (∃ f, state_Load_L0 k (t, s, zS, (0, 0), x, l, Int.ofNat l.length, (i : Int)) = some (.inr (s, f)) ∧ feluccalaw21_StateLoads_L0 k (s, true, s, f, l, (Tx.rowsT t.data.toList).map (·.1), x, (i : Int)) = some (.inr true)) ∨
    ∃ q, state_Load_L0 k (t, s, zS, (0, 0), x, l, Int.ofNat l.length, (i : Int)) = some (.inl (zS, (0, 0), q)) ∧ RightS q ∧ feluccalaw21_StateLoads_L0 k (s, true, q, (0, 0), l, (Tx.rowsT t.data.toList).map (·.1), x, (i : Int)) = some (.inl (true, q, (0, 0), q))
  | 0, i, k + 1, x, hx, hm, hk => by
    refine .inr ⟨x, ?_, hx, ?_⟩
    · simp only [state_Load_L0]
      rw [i_lt, decide_eq_false (by omega)]
      rfl
    · simp only [feluccalaw21_StateLoads_L0]
      rw [i_lt, decide_eq_false (by omega)]
      rfl
  | m + 1, i, k + 1, x, hx, hm, hk => by
    have hf := rows_few t ht
    have hi : i < l.length := by omega
    obtain ⟨o, ho, hkp⟩ := Edit21_cases hx _ (hd _ (getD_dir hi)) k (by omega)
    simp only [state_Load_L0, feluccalaw21_StateLoads_L0]
    rw [i_lt, decide_eq_true hi, decide_eq_true (Int.natCast_nonneg i), Int.toNat_natCast]
    simp only [cond_true, ho, Option.bind_some, h.copied k (by omega), Tx.text_Lines_sp k (s := t) (by omega) (by omega), i_lt, List.length_map, decide_eq_true (show i < (Tx.rowsT t.data.toList).length by omega), h.same s k (by omega), decide_true]
    rcases hkp with ⟨he, _⟩ | ⟨he, hq, hcl⟩
    · rw [decide_eq_false he]
      exact .inl ⟨_, rfl, by simp⟩
    · rw [decide_eq_true he, w64_succ (by omega)]
      exact Loads_L0 h t ht l hd hll m (i + 1) k o.1 hq (by omega) (by omega)
theorem StateLoads_pure (s : GState) (g1 : ∀ c ∈ s.1, okvT kGContact c) (g2 : ∀ r ∈ s.2.1, okvT kGRange r) (t : ByteArray) : ∃ k, feluccalaw21_StateLoads k (s, t) = some true := by
  refine ⟨45000, ?_⟩
  unfold feluccalaw21_StateLoads
  simp only [small21, Few21_spec, Option.bind_some, cond_true]
  by_cases few : s.1.length ≤ 50 ∧ s.2.1.length ≤ 50 ∧ (bk s).length ≤ 50
  · rw [decide_eq_true few]
    simp only [cond_true]
    by_cases hi : t.size ≤ 1000
    · have c1 : decide (1000 < Int.ofNat t.size) = false := decide_eq_false (by show ¬ (1000 : Int) < (t.size : Int); omega)
      rw [c1]
      obtain ⟨b, hb, hr⟩ := StateRight_spec s 45000 (by omega) (by omega) (by omega) (fun c hc => rng_of (g1 c hc)) (fun r hr => rngR_of (g2 r hr)) (by omega)
      simp only [cond_false, hb, Option.bind_some]
      cases b with
      | false => rfl
      | true =>
        have h := hr.1 rfl
        have hp := Tx.text_Parse_sp 45000 (s := t) (by omega) (by omega)
        have hn := Tx.text_Lines_sp 45000 (s := t) (by omega) (by omega)
        simp only [cond_true, hp, hn, Option.bind_some]
        by_cases he : (Tx.parseT t.data.toList).2.2 = 0
        · obtain ⟨e1, e2⟩ := parseT_good he
          have hlen : decide (Int.ofNat (Tx.parseT t.data.toList).1.length = Int.ofNat ((Tx.rowsT t.data.toList).map (·.1)).length) = true := decide_eq_true (by rw [List.length_map, e1])
          have hf := rows_few t hi
          have hL := Loads_L0 h t hi _ (fun d hd => right_rng (e2 d hd)) e1 _ 0 45000 s h rfl (by omega)
          rw [Int.natCast_zero] at hL
          have hload : state_Load 45000 (s, t) = (state_Load_L0 45000 (t, s, zS, (0, 0), s, (Tx.parseT t.data.toList).1, Int.ofNat (Tx.parseT t.data.toList).1.length, 0)).bind fun o_4 => match o_4 with
              | .inl o_5 => some (o_5.2.2, 0, 0)
              | .inr o_5 => some o_5 := by
            unfold state_Load
            simp only [hp, Option.bind_some, h.copied 45000 (by omega), decide_eq_true he, Bool.not_true, cond_false]
            all_goals rfl
          rcases hL with ⟨f, l1, l2⟩ | ⟨q, l1, hq, l2⟩
          · rw [l1] at hload
            have hload' : state_Load 45000 (s, t) = some (s, f) := hload
            simp only [hload', Option.bind_some, decide_eq_true he, Bool.not_true, cond_false, hlen, l2]
          · rw [l1] at hload
            have hload' : state_Load 45000 (s, t) = some (q, (0, 0)) := hload
            simp only [hload', Option.bind_some, decide_eq_true he, Bool.not_true, cond_false, hlen, l2, hq.same q 45000 (by omega), decide_true, cond_true]
            rfl
        · have hload : state_Load 45000 (s, t) = some (s, (Tx.parseT t.data.toList).2) := by
            unfold state_Load
            simp only [hp, Option.bind_some, h.copied 45000 (by omega), decide_eq_false he, Bool.not_false, cond_true]
          simp only [hload, Option.bind_some, decide_eq_false he, Bool.not_false, cond_true, beq_self_eq_true, Bool.and_self, h.same s 45000 (by omega), decide_true]
    · have c1 : decide (1000 < Int.ofNat t.size) = true := decide_eq_true (by show (1000 : Int) < (t.size : Int); omega)
      rw [c1]; rfl
  · rw [decide_eq_false few]; rfl
end Go.Proofs.YthlhbnaloefncaaGreatDoor.Ex
