import Derived.Test.YtggikacbelogcaaGreatF3
namespace Go.Proofs.YtggikacbelogcaaGreat.Ex
open Go
set_option linter.unusedVariables false
set_option maxHeartbeats 0
abbrev T39 := Int × Int × Int × Int × Int × Int × Int × Int × Int × Int × Int × Int × Int × Int × Int
abbrev lT39 : List LK := [.sc (.int .i64), .sc (.int .i64), .sc (.int .i64), .sc (.int .i64), .sc (.int .i64), .sc (.int .i64), .sc (.int .i64), .sc (.int .i64), .sc (.int .i64), .sc (.int .i64), .sc (.int .i64), .sc (.int .i64), .sc (.int .i64), .sc (.int .i64), .sc (.int .i64)]
abbrev toT39 : List TL := [.sc (.int .i64), .sc (.int .i64), .sc (.int .i64), .sc (.int .i64), .sc (.int .i64), .sc (.int .i64), .sc (.int .i64), .sc (.int .i64), .sc (.int .i64), .sc (.int .i64), .sc (.int .i64), .sc (.int .i64), .sc (.int .i64), .sc (.int .i64), .sc (.int .i64)]
abbrev trT39 : List TL := [.sc (.int .i64), .sc (.int .i64), .sc (.int .i64), .sc (.int .i64), .sc (.int .i64), .sc (.int .i64), .sc (.int .i64), .sc (.int .i64), .sc (.int .i64), .sc (.int .i64), .sc (.int .i64), .sc (.int .i64), .sc (.int .i64), .sc (.int .i64), .sc (.int .i64)]
abbrev kT39 : List SK := [.int .i64, .int .i64, .int .i64, .int .i64, .int .i64, .int .i64, .int .i64, .int .i64, .int .i64, .int .i64, .int .i64, .int .i64, .int .i64, .int .i64, .int .i64]
/-! felucca/feluccalaw08.span -/
noncomputable def feluccalaw08_span_c : Code := Tryz.f23.body.getD .skip
def feluccalaw08_span (k : Nat) : Int → Option (T37) := fun (end0) =>
  some ((1, 2, 0, 0, 0, 0, 0, 0, 1, 2, 0, end0, 4))
noncomputable def feluccalaw08_span_X : Cx Tryz.prog [.agg lT37] := ⟨fun k => ⟨[], [], []⟩, Tryz.f23.ntmps, Tryz.f23.results, []⟩
theorem feluccalaw08_span_eq (k : Nat) (x : Int) : feluccalaw08_span k x = runF feluccalaw08_span_X k feluccalaw08_span_c [.one (.sc (.int .i64))] x := by kernel_rfl
noncomputable def feluccalaw08_span_e (k : Nat) : Ent Tryz.prog := ⟨23, [.one (.sc (.int .i64))], [.agg lT37], feluccalaw08_span k, calls_of (X := feluccalaw08_span_X) (k := k) (c := feluccalaw08_span_c) Tryz.func23 (by kernel_rfl) (by kernel_rfl) (by kernel_rfl) (LoopEqs.all (show LoopEqs feluccalaw08_span_X feluccalaw08_span_c feluccalaw08_span_X.L 0 from trivial)) (fun x => feluccalaw08_span_eq k x), fun _ _ => by kernel_rfl⟩
/-! felucca/feluccalaw08.contact -/
noncomputable def feluccalaw08_contact_c : Code := Tryz.f24.body.getD .skip
def feluccalaw08_contact (k : Nat) : (Int × Int) → Option (T37) := fun (id, end1) =>
  some ((1, 1, id, 1, 2, w64 (end1 - 5), end1, 3, 0, 0, 0, 0, 0))
noncomputable def feluccalaw08_contact_X : Cx Tryz.prog [.agg lT37] := ⟨fun k => ⟨[], [], []⟩, Tryz.f24.ntmps, Tryz.f24.results, []⟩
theorem feluccalaw08_contact_eq (k : Nat) (x : Int × Int) : feluccalaw08_contact k x = runF feluccalaw08_contact_X k feluccalaw08_contact_c [.one (.sc (.int .i64)), .one (.sc (.int .i64))] x := by kernel_rfl
noncomputable def feluccalaw08_contact_e (k : Nat) : Ent Tryz.prog := ⟨24, [.one (.sc (.int .i64)), .one (.sc (.int .i64))], [.agg lT37], feluccalaw08_contact k, calls_of (X := feluccalaw08_contact_X) (k := k) (c := feluccalaw08_contact_c) Tryz.func24 (by kernel_rfl) (by kernel_rfl) (by kernel_rfl) (LoopEqs.all (show LoopEqs feluccalaw08_contact_X feluccalaw08_contact_c feluccalaw08_contact_X.L 0 from trivial)) (fun x => feluccalaw08_contact_eq k x), fun _ _ => by kernel_rfl⟩
/-! felucca/feluccalaw08.Few -/
noncomputable def feluccalaw08_Few_c : Code := Tryz.f5.body.getD .skip
def feluccalaw08_Few (k : Nat) : T25 → Option (Bool) := fun (p) =>
  bif decide (Int.ofNat (List.length p.1) ≤ 50) then
    bif decide (Int.ofNat (List.length p.2.1) ≤ 50) then
      some (true)
    else
      some (false)
  else
    some (false)
noncomputable def feluccalaw08_Few_X : Cx Tryz.prog [.one (.sc (.bool))] := ⟨fun k => ⟨[], [], []⟩, Tryz.f5.ntmps, Tryz.f5.results, []⟩
theorem feluccalaw08_Few_eq (k : Nat) (x : T25) : feluccalaw08_Few k x = runF feluccalaw08_Few_X k feluccalaw08_Few_c [.agg lT25] x := by kernel_rfl
noncomputable def feluccalaw08_Few_e (k : Nat) : Ent Tryz.prog := ⟨5, [.agg lT25], [.one (.sc (.bool))], feluccalaw08_Few k, calls_of (X := feluccalaw08_Few_X) (k := k) (c := feluccalaw08_Few_c) Tryz.func5 (by kernel_rfl) (by kernel_rfl) (by kernel_rfl) (LoopEqs.all (show LoopEqs feluccalaw08_Few_X feluccalaw08_Few_c feluccalaw08_Few_X.L 0 from trivial)) (fun x => feluccalaw08_Few_eq k x), fun _ _ => by kernel_rfl⟩
/-! felucca/feluccalaw08.small -/
noncomputable def feluccalaw08_small_c : Code := Tryz.f4.body.getD .skip
def feluccalaw08_small (_k : Nat) : Unit → Option (Bool) := fun _ => some true
noncomputable def feluccalaw08_small_X : Cx Tryz.prog [.one (.sc (.bool))] := ⟨fun k => ⟨[plan_Right_e k, plan_Same_e k, plan_Copy_e k, plan_All_e k, plan_List_e k, plan_Apply_e k, plan_Advance_e k, feluccaref05_Ints_e k, plan_New_e k, feluccalaw08_span_e k, feluccalaw08_contact_e k], [], []⟩, Tryz.f4.ntmps, Tryz.f4.results, []⟩
theorem feluccalaw08_small_eq (x : Unit) : feluccalaw08_small 0 x = runF feluccalaw08_small_X 300 feluccalaw08_small_c [] x := by kernel_rfl
noncomputable def feluccalaw08_small_e (k : Nat) : Ent Tryz.prog := ⟨4, [], [.one (.sc (.bool))], feluccalaw08_small k, calls_of (X := feluccalaw08_small_X) (k := 300) (c := feluccalaw08_small_c) Tryz.func4 (by kernel_rfl) (by kernel_rfl) (by kernel_rfl) (LoopEqs.all (show LoopEqs feluccalaw08_small_X feluccalaw08_small_c feluccalaw08_small_X.L 0 from trivial)) (fun x => feluccalaw08_small_eq x), fun _ _ => by kernel_rfl⟩
/-! felucca/feluccalaw08.PlanTells -/
noncomputable def feluccalaw08_PlanTells_c : Code := Tryz.f3.body.getD .skip
def feluccalaw08_PlanTells_L3 : Nat → ((List T39) × Bool × T25 × Int × T25 × Int) → Option (((List T39) × Bool × T25 × Int) ⊕ (Bool))
  | 0, _ => none
  | k + 1, (o, t7, t18, t19, t21, t33) =>
  bif decide (t33 < Int.ofNat (List.length t21.2.1)) then
    bif decide (0 ≤ t33) then
      bif decide (t33 < Int.ofNat (List.length t21.2.1)) then
        feluccalaw08_PlanTells_L3 k (o, t7, t18, t19, (t21.1, List.set t21.2.1 (Int.toNat t33) ((List.getD t21.2.1 (Int.toNat t33) (0, 0, 0, 0, 0)).1, (List.getD t21.2.1 (Int.toNat t33) (0, 0, 0, 0, 0)).2.1, (List.getD t21.2.1 (Int.toNat t33) (0, 0, 0, 0, 0)).2.2.1, (List.getD t21.2.1 (Int.toNat t33) (0, 0, 0, 0, 0)).2.2.2.1, -7), t21.2.2), w64 (t33 + 1))
      else
        none
    else
      none
  else
    some (Sum.inl (o, t7, t18, t19))
def feluccalaw08_PlanTells_L2 : Nat → ((List T39) × Bool × T25 × Int × T25 × Int) → Option (((List T39) × Bool × T25 × Int × T25) ⊕ (Bool))
  | 0, _ => none
  | k + 1, (o, t7, t18, t19, t21, t32) =>
  bif decide (t32 < Int.ofNat (List.length t21.1)) then
    bif decide (0 ≤ t32) then
      bif decide (t32 < Int.ofNat (List.length t21.1)) then
        feluccalaw08_PlanTells_L2 k (o, t7, t18, t19, (List.set t21.1 (Int.toNat t32) (-7, (List.getD t21.1 (Int.toNat t32) (0, 0, 0, 0, 0, 0)).2), t21.2), w64 (t32 + 1))
      else
        none
    else
      none
  else
    some (Sum.inl (o, t7, t18, t19, t21))
def feluccalaw08_PlanTells_L1 : Nat → ((List T39) × Bool × T25 × Int) → Option ((Bool) ⊕ (Bool))
  | 0, _ => none
  | k + 1, (o, t7, t18, t19) =>
  bif decide (t19 < Int.ofNat (List.length o)) then
    (feluccaref08_Copy k t18).bind fun o_2 =>
      bif decide (0 ≤ t19) then
        bif decide (t19 < Int.ofNat (List.length o)) then
          bif decide ((List.getD o (Int.toNat t19) (0, 0, 0, 0, 0, 0, 0, 0, 0, 0, 0, 0, 0, 0, 0)).1 = 0) then
            bif decide (0 ≤ t19) then
              bif decide (t19 < Int.ofNat (List.length o)) then
                (plan_Apply k (t18, (List.getD o (Int.toNat t19) (0, 0, 0, 0, 0, 0, 0, 0, 0, 0, 0, 0, 0, 0, 0)).2.1, (List.getD o (Int.toNat t19) (0, 0, 0, 0, 0, 0, 0, 0, 0, 0, 0, 0, 0, 0, 0)).2.2.1, (List.getD o (Int.toNat t19) (0, 0, 0, 0, 0, 0, 0, 0, 0, 0, 0, 0, 0, 0, 0)).2.2.2.1, (List.getD o (Int.toNat t19) (0, 0, 0, 0, 0, 0, 0, 0, 0, 0, 0, 0, 0, 0, 0)).2.2.2.2.1, (List.getD o (Int.toNat t19) (0, 0, 0, 0, 0, 0, 0, 0, 0, 0, 0, 0, 0, 0, 0)).2.2.2.2.2.1, (List.getD o (Int.toNat t19) (0, 0, 0, 0, 0, 0, 0, 0, 0, 0, 0, 0, 0, 0, 0)).2.2.2.2.2.2.1, (List.getD o (Int.toNat t19) (0, 0, 0, 0, 0, 0, 0, 0, 0, 0, 0, 0, 0, 0, 0)).2.2.2.2.2.2.2.1, (List.getD o (Int.toNat t19) (0, 0, 0, 0, 0, 0, 0, 0, 0, 0, 0, 0, 0, 0, 0)).2.2.2.2.2.2.2.2.1, (List.getD o (Int.toNat t19) (0, 0, 0, 0, 0, 0, 0, 0, 0, 0, 0, 0, 0, 0, 0)).2.2.2.2.2.2.2.2.2.1, (List.getD o (Int.toNat t19) (0, 0, 0, 0, 0, 0, 0, 0, 0, 0, 0, 0, 0, 0, 0)).2.2.2.2.2.2.2.2.2.2.1, (List.getD o (Int.toNat t19) (0, 0, 0, 0, 0, 0, 0, 0, 0, 0, 0, 0, 0, 0, 0)).2.2.2.2.2.2.2.2.2.2.2.1, (List.getD o (Int.toNat t19) (0, 0, 0, 0, 0, 0, 0, 0, 0, 0, 0, 0, 0, 0, 0)).2.2.2.2.2.2.2.2.2.2.2.2.1, (List.getD o (Int.toNat t19) (0, 0, 0, 0, 0, 0, 0, 0, 0, 0, 0, 0, 0, 0, 0)).2.2.2.2.2.2.2.2.2.2.2.2.2.1)).bind fun o_8 =>
                  bif decide (0 ≤ t19) then
                    bif decide (t19 < Int.ofNat (List.length o)) then
                      (feluccaref08_Apply k (t18, (List.getD o (Int.toNat t19) (0, 0, 0, 0, 0, 0, 0, 0, 0, 0, 0, 0, 0, 0, 0)).2.1, (List.getD o (Int.toNat t19) (0, 0, 0, 0, 0, 0, 0, 0, 0, 0, 0, 0, 0, 0, 0)).2.2.1, (List.getD o (Int.toNat t19) (0, 0, 0, 0, 0, 0, 0, 0, 0, 0, 0, 0, 0, 0, 0)).2.2.2.1, (List.getD o (Int.toNat t19) (0, 0, 0, 0, 0, 0, 0, 0, 0, 0, 0, 0, 0, 0, 0)).2.2.2.2.1, (List.getD o (Int.toNat t19) (0, 0, 0, 0, 0, 0, 0, 0, 0, 0, 0, 0, 0, 0, 0)).2.2.2.2.2.1, (List.getD o (Int.toNat t19) (0, 0, 0, 0, 0, 0, 0, 0, 0, 0, 0, 0, 0, 0, 0)).2.2.2.2.2.2.1, (List.getD o (Int.toNat t19) (0, 0, 0, 0, 0, 0, 0, 0, 0, 0, 0, 0, 0, 0, 0)).2.2.2.2.2.2.2.1, (List.getD o (Int.toNat t19) (0, 0, 0, 0, 0, 0, 0, 0, 0, 0, 0, 0, 0, 0, 0)).2.2.2.2.2.2.2.2.1, (List.getD o (Int.toNat t19) (0, 0, 0, 0, 0, 0, 0, 0, 0, 0, 0, 0, 0, 0, 0)).2.2.2.2.2.2.2.2.2.1, (List.getD o (Int.toNat t19) (0, 0, 0, 0, 0, 0, 0, 0, 0, 0, 0, 0, 0, 0, 0)).2.2.2.2.2.2.2.2.2.2.1, (List.getD o (Int.toNat t19) (0, 0, 0, 0, 0, 0, 0, 0, 0, 0, 0, 0, 0, 0, 0)).2.2.2.2.2.2.2.2.2.2.2.1, (List.getD o (Int.toNat t19) (0, 0, 0, 0, 0, 0, 0, 0, 0, 0, 0, 0, 0, 0, 0)).2.2.2.2.2.2.2.2.2.2.2.2.1, (List.getD o (Int.toNat t19) (0, 0, 0, 0, 0, 0, 0, 0, 0, 0, 0, 0, 0, 0, 0)).2.2.2.2.2.2.2.2.2.2.2.2.2.1)).bind fun o_11 =>
                        bif !decide (o_8.2 = o_11.2) then
                          some (Sum.inr false)
                        else
                          (feluccaref08_Same k (o_8.1, o_11.1)).bind fun o_13 =>
                            bif o_13 then
                              (feluccaref08_Same k (t18, o_2)).bind fun o_15 =>
                                bif o_15 then
                                  (feluccaref08_Copy k o_8.1).bind fun o_17 =>
                                    (feluccalaw08_PlanTells_L2 k (o, t7, o_17, t19, o_8.1, 0)).bind fun o_18 =>
                                      match o_18 with
                                      | .inl o_19 =>
                                        (feluccalaw08_PlanTells_L3 k (o_19.1, o_19.2.1, o_19.2.2.1, o_19.2.2.2.1, o_19.2.2.2.2, 0)).bind fun o_20 =>
                                          match o_20 with
                                          | .inl o_21 =>
                                            feluccalaw08_PlanTells_L1 k (o_21.1, o_21.2.1, o_21.2.2.1, w64 (o_21.2.2.2 + 1))
                                          | .inr o_21 =>
                                            some (Sum.inr o_21)
                                      | .inr o_19 =>
                                        some (Sum.inr o_19)
                                else
                                  some (Sum.inr false)
                            else
                              some (Sum.inr false)
                    else
                      none
                  else
                    none
              else
                none
            else
              none
          else
            bif decide (0 ≤ t19) then
              bif decide (t19 < Int.ofNat (List.length o)) then
                (plan_Advance k (t18, (List.getD o (Int.toNat t19) (0, 0, 0, 0, 0, 0, 0, 0, 0, 0, 0, 0, 0, 0, 0)).2.2.2.2.2.2.2.2.2.2.2.2.2.2)).bind fun o_8 =>
                  bif decide (0 ≤ t19) then
                    bif decide (t19 < Int.ofNat (List.length o)) then
                      (feluccaref08_Advance k (t18, (List.getD o (Int.toNat t19) (0, 0, 0, 0, 0, 0, 0, 0, 0, 0, 0, 0, 0, 0, 0)).2.2.2.2.2.2.2.2.2.2.2.2.2.2)).bind fun o_11 =>
                        (feluccaref05_Ints k (o_8.2.1, o_11.2.1)).bind fun o_12 =>
                          bif o_12 then
                            bif !decide (o_8.2.2 = o_11.2.2) then
                              some (Sum.inr false)
                            else
                              (feluccaref08_Same k (o_8.1, o_11.1)).bind fun o_15 =>
                                bif o_15 then
                                  (feluccaref08_Same k (t18, o_2)).bind fun o_17 =>
                                    bif o_17 then
                                      (feluccaref08_Copy k o_8.1).bind fun o_19 =>
                                        (feluccalaw08_PlanTells_L2 k (o, t7, o_19, t19, o_8.1, 0)).bind fun o_20 =>
                                          match o_20 with
                                          | .inl o_21 =>
                                            (feluccalaw08_PlanTells_L3 k (o_21.1, o_21.2.1, o_21.2.2.1, o_21.2.2.2.1, o_21.2.2.2.2, 0)).bind fun o_22 =>
                                              match o_22 with
                                              | .inl o_23 =>
                                                feluccalaw08_PlanTells_L1 k (o_23.1, o_23.2.1, o_23.2.2.1, w64 (o_23.2.2.2 + 1))
                                              | .inr o_23 =>
                                                some (Sum.inr o_23)
                                          | .inr o_21 =>
                                            some (Sum.inr o_21)
                                    else
                                      some (Sum.inr false)
                                else
                                  some (Sum.inr false)
                          else
                            some (Sum.inr false)
                    else
                      none
                  else
                    none
              else
                none
            else
              none
        else
          none
      else
        none
  else
    some (Sum.inl t7)
def feluccalaw08_PlanTells_L0 : Nat → ((List T39) × T25 × Bool × (List T37) × Int) → Option (((List T39) × T25 × Bool × (List T37)) ⊕ (Bool))
  | 0, _ => none
  | k + 1, (o, r, t7, t10, t11) =>
  bif decide (t11 < Int.ofNat (List.length o)) then
    bif decide (0 ≤ t11) then
      bif decide (t11 < Int.ofNat (List.length o)) then
        bif decide ((List.length t10 + List.length [((List.getD o (Int.toNat t11) (0, 0, 0, 0, 0, 0, 0, 0, 0, 0, 0, 0, 0, 0, 0)).2.1, (List.getD o (Int.toNat t11) (0, 0, 0, 0, 0, 0, 0, 0, 0, 0, 0, 0, 0, 0, 0)).2.2.1, (List.getD o (Int.toNat t11) (0, 0, 0, 0, 0, 0, 0, 0, 0, 0, 0, 0, 0, 0, 0)).2.2.2.1, (List.getD o (Int.toNat t11) (0, 0, 0, 0, 0, 0, 0, 0, 0, 0, 0, 0, 0, 0, 0)).2.2.2.2.1, (List.getD o (Int.toNat t11) (0, 0, 0, 0, 0, 0, 0, 0, 0, 0, 0, 0, 0, 0, 0)).2.2.2.2.2.1, (List.getD o (Int.toNat t11) (0, 0, 0, 0, 0, 0, 0, 0, 0, 0, 0, 0, 0, 0, 0)).2.2.2.2.2.2.1, (List.getD o (Int.toNat t11) (0, 0, 0, 0, 0, 0, 0, 0, 0, 0, 0, 0, 0, 0, 0)).2.2.2.2.2.2.2.1, (List.getD o (Int.toNat t11) (0, 0, 0, 0, 0, 0, 0, 0, 0, 0, 0, 0, 0, 0, 0)).2.2.2.2.2.2.2.2.1, (List.getD o (Int.toNat t11) (0, 0, 0, 0, 0, 0, 0, 0, 0, 0, 0, 0, 0, 0, 0)).2.2.2.2.2.2.2.2.2.1, (List.getD o (Int.toNat t11) (0, 0, 0, 0, 0, 0, 0, 0, 0, 0, 0, 0, 0, 0, 0)).2.2.2.2.2.2.2.2.2.2.1, (List.getD o (Int.toNat t11) (0, 0, 0, 0, 0, 0, 0, 0, 0, 0, 0, 0, 0, 0, 0)).2.2.2.2.2.2.2.2.2.2.2.1, (List.getD o (Int.toNat t11) (0, 0, 0, 0, 0, 0, 0, 0, 0, 0, 0, 0, 0, 0, 0)).2.2.2.2.2.2.2.2.2.2.2.2.1, (List.getD o (Int.toNat t11) (0, 0, 0, 0, 0, 0, 0, 0, 0, 0, 0, 0, 0, 0, 0)).2.2.2.2.2.2.2.2.2.2.2.2.2.1)]) * 104 ≤ 140737488355328) then
          feluccalaw08_PlanTells_L0 k (o, r, t7, t10 ++ [((List.getD o (Int.toNat t11) (0, 0, 0, 0, 0, 0, 0, 0, 0, 0, 0, 0, 0, 0, 0)).2.1, (List.getD o (Int.toNat t11) (0, 0, 0, 0, 0, 0, 0, 0, 0, 0, 0, 0, 0, 0, 0)).2.2.1, (List.getD o (Int.toNat t11) (0, 0, 0, 0, 0, 0, 0, 0, 0, 0, 0, 0, 0, 0, 0)).2.2.2.1, (List.getD o (Int.toNat t11) (0, 0, 0, 0, 0, 0, 0, 0, 0, 0, 0, 0, 0, 0, 0)).2.2.2.2.1, (List.getD o (Int.toNat t11) (0, 0, 0, 0, 0, 0, 0, 0, 0, 0, 0, 0, 0, 0, 0)).2.2.2.2.2.1, (List.getD o (Int.toNat t11) (0, 0, 0, 0, 0, 0, 0, 0, 0, 0, 0, 0, 0, 0, 0)).2.2.2.2.2.2.1, (List.getD o (Int.toNat t11) (0, 0, 0, 0, 0, 0, 0, 0, 0, 0, 0, 0, 0, 0, 0)).2.2.2.2.2.2.2.1, (List.getD o (Int.toNat t11) (0, 0, 0, 0, 0, 0, 0, 0, 0, 0, 0, 0, 0, 0, 0)).2.2.2.2.2.2.2.2.1, (List.getD o (Int.toNat t11) (0, 0, 0, 0, 0, 0, 0, 0, 0, 0, 0, 0, 0, 0, 0)).2.2.2.2.2.2.2.2.2.1, (List.getD o (Int.toNat t11) (0, 0, 0, 0, 0, 0, 0, 0, 0, 0, 0, 0, 0, 0, 0)).2.2.2.2.2.2.2.2.2.2.1, (List.getD o (Int.toNat t11) (0, 0, 0, 0, 0, 0, 0, 0, 0, 0, 0, 0, 0, 0, 0)).2.2.2.2.2.2.2.2.2.2.2.1, (List.getD o (Int.toNat t11) (0, 0, 0, 0, 0, 0, 0, 0, 0, 0, 0, 0, 0, 0, 0)).2.2.2.2.2.2.2.2.2.2.2.2.1, (List.getD o (Int.toNat t11) (0, 0, 0, 0, 0, 0, 0, 0, 0, 0, 0, 0, 0, 0, 0)).2.2.2.2.2.2.2.2.2.2.2.2.2.1)], w64 (t11 + 1))
        else
          none
      else
        none
    else
      none
  else
    some (Sum.inl (o, r, t7, t10))
def feluccalaw08_PlanTells (k : Nat) : (T25 × (List T39) × T25) → Option (Bool) := fun (t, o, A) =>
  (feluccalaw08_small k ()).bind fun o_1 =>
    bif o_1 then
      (feluccalaw08_Few k t).bind fun o_3 =>
        bif o_3 then
          (feluccalaw08_Few k A).bind fun o_5 =>
            bif o_5 then
              bif decide (50 < Int.ofNat (List.length o)) then
                some (true)
              else
                (plan_Right k t).bind fun o_8 =>
                  bif o_8 then
                    (feluccaref08_Right k t).bind fun o_10 =>
                      bif o_10 then
                        (plan_Same k (t, A)).bind fun o_12 =>
                          bif o_12 then
                            (feluccaref08_Same k (t, A)).bind fun o_14 =>
                              bif o_14 then
                                (plan_Copy k t).bind fun o_16 =>
                                  (feluccaref08_Same k (o_16, t)).bind fun o_17 =>
                                    bif o_17 then
                                      (feluccaref08_Right k t).bind fun o_19 =>
                                        bif o_19 then
                                          (feluccalaw08_PlanTells_L0 k (o, t, true, [], 0)).bind fun o_21 =>
                                            match o_21 with
                                            | .inl o_22 =>
                                              (plan_All k (o_22.2.1, o_22.2.2.2)).bind fun o_23 =>
                                                (feluccaref08_All k (o_22.2.1, o_22.2.2.2)).bind fun o_24 =>
                                                  (feluccaref08_Same k (o_23.1, o_24.1)).bind fun o_25 =>
                                                    bif o_25 then
                                                      bif !decide (o_23.2.1 = o_24.2.1) then
                                                        some (false)
                                                      else
                                                        bif !decide (o_23.2.2 = o_24.2.2) then
                                                          some (false)
                                                        else
                                                          (plan_List k o_22.2.1).bind fun o_29 =>
                                                            (feluccaref08_List k o_22.2.1).bind fun o_30 =>
                                                              (feluccaref05_Same k (o_29, o_30)).bind fun o_31 =>
                                                                bif o_31 then
                                                                  (feluccalaw08_PlanTells_L1 k (o_22.1, o_22.2.2.1, o_22.2.1, 0)).bind fun o_33 =>
                                                                    match o_33 with
                                                                    | .inl o_34 =>
                                                                      bif o_34 then
                                                                        some (true)
                                                                      else
                                                                        some (false)
                                                                    | .inr o_34 =>
                                                                      some (o_34)
                                                                else
                                                                  some (false)
                                                    else
                                                      some (false)
                                            | .inr o_22 =>
                                              some (o_22)
                                        else
                                          some (true)
                                    else
                                      some (false)
                              else
                                some (false)
                          else
                            (feluccaref08_Same k (t, A)).bind fun o_14 =>
                              bif o_14 then
                                some (false)
                              else
                                (plan_Copy k t).bind fun o_16 =>
                                  (feluccaref08_Same k (o_16, t)).bind fun o_17 =>
                                    bif o_17 then
                                      (feluccaref08_Right k t).bind fun o_19 =>
                                        bif o_19 then
                                          (feluccalaw08_PlanTells_L0 k (o, t, true, [], 0)).bind fun o_21 =>
                                            match o_21 with
                                            | .inl o_22 =>
                                              (plan_All k (o_22.2.1, o_22.2.2.2)).bind fun o_23 =>
                                                (feluccaref08_All k (o_22.2.1, o_22.2.2.2)).bind fun o_24 =>
                                                  (feluccaref08_Same k (o_23.1, o_24.1)).bind fun o_25 =>
                                                    bif o_25 then
                                                      bif !decide (o_23.2.1 = o_24.2.1) then
                                                        some (false)
                                                      else
                                                        bif !decide (o_23.2.2 = o_24.2.2) then
                                                          some (false)
                                                        else
                                                          (plan_List k o_22.2.1).bind fun o_29 =>
                                                            (feluccaref08_List k o_22.2.1).bind fun o_30 =>
                                                              (feluccaref05_Same k (o_29, o_30)).bind fun o_31 =>
                                                                bif o_31 then
                                                                  (feluccalaw08_PlanTells_L1 k (o_22.1, o_22.2.2.1, o_22.2.1, 0)).bind fun o_33 =>
                                                                    match o_33 with
                                                                    | .inl o_34 =>
                                                                      bif o_34 then
                                                                        some (true)
                                                                      else
                                                                        some (false)
                                                                    | .inr o_34 =>
                                                                      some (o_34)
                                                                else
                                                                  some (false)
                                                    else
                                                      some (false)
                                            | .inr o_22 =>
                                              some (o_22)
                                        else
                                          some (true)
                                    else
                                      some (false)
                      else
                        some (false)
                  else
                    (feluccaref08_Right k t).bind fun o_10 =>
                      bif o_10 then
                        some (false)
                      else
                        (plan_Same k (t, A)).bind fun o_12 =>
                          bif o_12 then
                            (feluccaref08_Same k (t, A)).bind fun o_14 =>
                              bif o_14 then
                                (plan_Copy k t).bind fun o_16 =>
                                  (feluccaref08_Same k (o_16, t)).bind fun o_17 =>
                                    bif o_17 then
                                      (feluccaref08_Right k t).bind fun o_19 =>
                                        bif o_19 then
                                          (feluccalaw08_PlanTells_L0 k (o, t, true, [], 0)).bind fun o_21 =>
                                            match o_21 with
                                            | .inl o_22 =>
                                              (plan_All k (o_22.2.1, o_22.2.2.2)).bind fun o_23 =>
                                                (feluccaref08_All k (o_22.2.1, o_22.2.2.2)).bind fun o_24 =>
                                                  (feluccaref08_Same k (o_23.1, o_24.1)).bind fun o_25 =>
                                                    bif o_25 then
                                                      bif !decide (o_23.2.1 = o_24.2.1) then
                                                        some (false)
                                                      else
                                                        bif !decide (o_23.2.2 = o_24.2.2) then
                                                          some (false)
                                                        else
                                                          (plan_List k o_22.2.1).bind fun o_29 =>
                                                            (feluccaref08_List k o_22.2.1).bind fun o_30 =>
                                                              (feluccaref05_Same k (o_29, o_30)).bind fun o_31 =>
                                                                bif o_31 then
                                                                  (feluccalaw08_PlanTells_L1 k (o_22.1, o_22.2.2.1, o_22.2.1, 0)).bind fun o_33 =>
                                                                    match o_33 with
                                                                    | .inl o_34 =>
                                                                      bif o_34 then
                                                                        some (true)
                                                                      else
                                                                        some (false)
                                                                    | .inr o_34 =>
                                                                      some (o_34)
                                                                else
                                                                  some (false)
                                                    else
                                                      some (false)
                                            | .inr o_22 =>
                                              some (o_22)
                                        else
                                          some (true)
                                    else
                                      some (false)
                              else
                                some (false)
                          else
                            (feluccaref08_Same k (t, A)).bind fun o_14 =>
                              bif o_14 then
                                some (false)
                              else
                                (plan_Copy k t).bind fun o_16 =>
                                  (feluccaref08_Same k (o_16, t)).bind fun o_17 =>
                                    bif o_17 then
                                      (feluccaref08_Right k t).bind fun o_19 =>
                                        bif o_19 then
                                          (feluccalaw08_PlanTells_L0 k (o, t, true, [], 0)).bind fun o_21 =>
                                            match o_21 with
                                            | .inl o_22 =>
                                              (plan_All k (o_22.2.1, o_22.2.2.2)).bind fun o_23 =>
                                                (feluccaref08_All k (o_22.2.1, o_22.2.2.2)).bind fun o_24 =>
                                                  (feluccaref08_Same k (o_23.1, o_24.1)).bind fun o_25 =>
                                                    bif o_25 then
                                                      bif !decide (o_23.2.1 = o_24.2.1) then
                                                        some (false)
                                                      else
                                                        bif !decide (o_23.2.2 = o_24.2.2) then
                                                          some (false)
                                                        else
                                                          (plan_List k o_22.2.1).bind fun o_29 =>
                                                            (feluccaref08_List k o_22.2.1).bind fun o_30 =>
                                                              (feluccaref05_Same k (o_29, o_30)).bind fun o_31 =>
                                                                bif o_31 then
                                                                  (feluccalaw08_PlanTells_L1 k (o_22.1, o_22.2.2.1, o_22.2.1, 0)).bind fun o_33 =>
                                                                    match o_33 with
                                                                    | .inl o_34 =>
                                                                      bif o_34 then
                                                                        some (true)
                                                                      else
                                                                        some (false)
                                                                    | .inr o_34 =>
                                                                      some (o_34)
                                                                else
                                                                  some (false)
                                                    else
                                                      some (false)
                                            | .inr o_22 =>
                                              some (o_22)
                                        else
                                          some (true)
                                    else
                                      some (false)
            else
              some (true)
        else
          (feluccalaw08_Few k A).bind fun o_5 =>
            bif o_5 then
              some (true)
            else
              some (true)
    else
      (feluccalaw08_Few k t).bind fun o_3 =>
        bif o_3 then
          (feluccalaw08_Few k A).bind fun o_5 =>
            bif o_5 then
              bif decide (50 < Int.ofNat (List.length o)) then
                some (false)
              else
                (plan_Right k t).bind fun o_8 =>
                  bif o_8 then
                    (feluccaref08_Right k t).bind fun o_10 =>
                      bif o_10 then
                        (plan_Same k (t, A)).bind fun o_12 =>
                          bif o_12 then
                            (feluccaref08_Same k (t, A)).bind fun o_14 =>
                              bif o_14 then
                                (plan_Copy k t).bind fun o_16 =>
                                  (feluccaref08_Same k (o_16, t)).bind fun o_17 =>
                                    bif o_17 then
                                      (feluccaref08_Right k t).bind fun o_19 =>
                                        bif o_19 then
                                          (feluccalaw08_PlanTells_L0 k (o, t, false, [], 0)).bind fun o_21 =>
                                            match o_21 with
                                            | .inl o_22 =>
                                              (plan_All k (o_22.2.1, o_22.2.2.2)).bind fun o_23 =>
                                                (feluccaref08_All k (o_22.2.1, o_22.2.2.2)).bind fun o_24 =>
                                                  (feluccaref08_Same k (o_23.1, o_24.1)).bind fun o_25 =>
                                                    bif o_25 then
                                                      bif !decide (o_23.2.1 = o_24.2.1) then
                                                        some (false)
                                                      else
                                                        bif !decide (o_23.2.2 = o_24.2.2) then
                                                          some (false)
                                                        else
                                                          (plan_List k o_22.2.1).bind fun o_29 =>
                                                            (feluccaref08_List k o_22.2.1).bind fun o_30 =>
                                                              (feluccaref05_Same k (o_29, o_30)).bind fun o_31 =>
                                                                bif o_31 then
                                                                  (feluccalaw08_PlanTells_L1 k (o_22.1, o_22.2.2.1, o_22.2.1, 0)).bind fun o_33 =>
                                                                    match o_33 with
                                                                    | .inl o_34 =>
                                                                      bif o_34 then
                                                                        some (true)
                                                                      else
                                                                        some (false)
                                                                    | .inr o_34 =>
                                                                      some (o_34)
                                                                else
                                                                  some (false)
                                                    else
                                                      some (false)
                                            | .inr o_22 =>
                                              some (o_22)
                                        else
                                          some (false)
                                    else
                                      some (false)
                              else
                                some (false)
                          else
                            (feluccaref08_Same k (t, A)).bind fun o_14 =>
                              bif o_14 then
                                some (false)
                              else
                                (plan_Copy k t).bind fun o_16 =>
                                  (feluccaref08_Same k (o_16, t)).bind fun o_17 =>
                                    bif o_17 then
                                      (feluccaref08_Right k t).bind fun o_19 =>
                                        bif o_19 then
                                          (feluccalaw08_PlanTells_L0 k (o, t, false, [], 0)).bind fun o_21 =>
                                            match o_21 with
                                            | .inl o_22 =>
                                              (plan_All k (o_22.2.1, o_22.2.2.2)).bind fun o_23 =>
                                                (feluccaref08_All k (o_22.2.1, o_22.2.2.2)).bind fun o_24 =>
                                                  (feluccaref08_Same k (o_23.1, o_24.1)).bind fun o_25 =>
                                                    bif o_25 then
                                                      bif !decide (o_23.2.1 = o_24.2.1) then
                                                        some (false)
                                                      else
                                                        bif !decide (o_23.2.2 = o_24.2.2) then
                                                          some (false)
                                                        else
                                                          (plan_List k o_22.2.1).bind fun o_29 =>
                                                            (feluccaref08_List k o_22.2.1).bind fun o_30 =>
                                                              (feluccaref05_Same k (o_29, o_30)).bind fun o_31 =>
                                                                bif o_31 then
                                                                  (feluccalaw08_PlanTells_L1 k (o_22.1, o_22.2.2.1, o_22.2.1, 0)).bind fun o_33 =>
                                                                    match o_33 with
                                                                    | .inl o_34 =>
                                                                      bif o_34 then
                                                                        some (true)
                                                                      else
                                                                        some (false)
                                                                    | .inr o_34 =>
                                                                      some (o_34)
                                                                else
                                                                  some (false)
                                                    else
                                                      some (false)
                                            | .inr o_22 =>
                                              some (o_22)
                                        else
                                          some (false)
                                    else
                                      some (false)
                      else
                        some (false)
                  else
                    (feluccaref08_Right k t).bind fun o_10 =>
                      bif o_10 then
                        some (false)
                      else
                        (plan_Same k (t, A)).bind fun o_12 =>
                          bif o_12 then
                            (feluccaref08_Same k (t, A)).bind fun o_14 =>
                              bif o_14 then
                                (plan_Copy k t).bind fun o_16 =>
                                  (feluccaref08_Same k (o_16, t)).bind fun o_17 =>
                                    bif o_17 then
                                      (feluccaref08_Right k t).bind fun o_19 =>
                                        bif o_19 then
                                          (feluccalaw08_PlanTells_L0 k (o, t, false, [], 0)).bind fun o_21 =>
                                            match o_21 with
                                            | .inl o_22 =>
                                              (plan_All k (o_22.2.1, o_22.2.2.2)).bind fun o_23 =>
                                                (feluccaref08_All k (o_22.2.1, o_22.2.2.2)).bind fun o_24 =>
                                                  (feluccaref08_Same k (o_23.1, o_24.1)).bind fun o_25 =>
                                                    bif o_25 then
                                                      bif !decide (o_23.2.1 = o_24.2.1) then
                                                        some (false)
                                                      else
                                                        bif !decide (o_23.2.2 = o_24.2.2) then
                                                          some (false)
                                                        else
                                                          (plan_List k o_22.2.1).bind fun o_29 =>
                                                            (feluccaref08_List k o_22.2.1).bind fun o_30 =>
                                                              (feluccaref05_Same k (o_29, o_30)).bind fun o_31 =>
                                                                bif o_31 then
                                                                  (feluccalaw08_PlanTells_L1 k (o_22.1, o_22.2.2.1, o_22.2.1, 0)).bind fun o_33 =>
                                                                    match o_33 with
                                                                    | .inl o_34 =>
                                                                      bif o_34 then
                                                                        some (true)
                                                                      else
                                                                        some (false)
                                                                    | .inr o_34 =>
                                                                      some (o_34)
                                                                else
                                                                  some (false)
                                                    else
                                                      some (false)
                                            | .inr o_22 =>
                                              some (o_22)
                                        else
                                          some (false)
                                    else
                                      some (false)
                              else
                                some (false)
                          else
                            (feluccaref08_Same k (t, A)).bind fun o_14 =>
                              bif o_14 then
                                some (false)
                              else
                                (plan_Copy k t).bind fun o_16 =>
                                  (feluccaref08_Same k (o_16, t)).bind fun o_17 =>
                                    bif o_17 then
                                      (feluccaref08_Right k t).bind fun o_19 =>
                                        bif o_19 then
                                          (feluccalaw08_PlanTells_L0 k (o, t, false, [], 0)).bind fun o_21 =>
                                            match o_21 with
                                            | .inl o_22 =>
                                              (plan_All k (o_22.2.1, o_22.2.2.2)).bind fun o_23 =>
                                                (feluccaref08_All k (o_22.2.1, o_22.2.2.2)).bind fun o_24 =>
                                                  (feluccaref08_Same k (o_23.1, o_24.1)).bind fun o_25 =>
                                                    bif o_25 then
                                                      bif !decide (o_23.2.1 = o_24.2.1) then
                                                        some (false)
                                                      else
                                                        bif !decide (o_23.2.2 = o_24.2.2) then
                                                          some (false)
                                                        else
                                                          (plan_List k o_22.2.1).bind fun o_29 =>
                                                            (feluccaref08_List k o_22.2.1).bind fun o_30 =>
                                                              (feluccaref05_Same k (o_29, o_30)).bind fun o_31 =>
                                                                bif o_31 then
                                                                  (feluccalaw08_PlanTells_L1 k (o_22.1, o_22.2.2.1, o_22.2.1, 0)).bind fun o_33 =>
                                                                    match o_33 with
                                                                    | .inl o_34 =>
                                                                      bif o_34 then
                                                                        some (true)
                                                                      else
                                                                        some (false)
                                                                    | .inr o_34 =>
                                                                      some (o_34)
                                                                else
                                                                  some (false)
                                                    else
                                                      some (false)
                                            | .inr o_22 =>
                                              some (o_22)
                                        else
                                          some (false)
                                    else
                                      some (false)
            else
              some (false)
        else
          (feluccalaw08_Few k A).bind fun o_5 =>
            bif o_5 then
              some (false)
            else
              some (false)
noncomputable def feluccalaw08_PlanTells_X : Cx Tryz.prog [.one (.sc (.bool))] := ⟨fun k => ⟨[feluccalaw08_small_e k, feluccalaw08_Few_e k, plan_Right_e k, feluccaref08_Right_e k, plan_Same_e k, feluccaref08_Same_e k, plan_Copy_e k, plan_All_e k, feluccaref08_All_e k, feluccaref05_Same_e k, plan_List_e k, feluccaref08_List_e k, feluccaref08_Copy_e k, plan_Apply_e k, feluccaref08_Apply_e k, plan_Advance_e k, feluccaref08_Advance_e k, feluccaref05_Ints_e k], [], []⟩, Tryz.f3.ntmps, Tryz.f3.results, [some ⟨0, [(1, .one (.ro kT39)), (3, .box 25 trT25), (7, .one (.sc (.bool))), (10, .one (.own 37 kT37)), (11, .one (.sc (.int .i64)))], [(1, .one (.ro kT39)), (3, .box 25 trT25), (7, .one (.sc (.bool))), (10, .one (.own 37 kT37))], feluccalaw08_PlanTells_L0⟩, some ⟨2, [(1, .one (.ro kT39)), (7, .one (.sc (.bool))), (18, .box 25 trT25), (19, .one (.sc (.int .i64)))], [(7, .one (.sc (.bool)))], feluccalaw08_PlanTells_L1⟩, some ⟨4, [(1, .one (.ro kT39)), (7, .one (.sc (.bool))), (18, .box 25 toT25), (19, .one (.sc (.int .i64))), (21, .box 25 toT25), (32, .one (.sc (.int .i64)))], [(1, .one (.ro kT39)), (7, .one (.sc (.bool))), (18, .box 25 toT25), (19, .one (.sc (.int .i64))), (21, .box 25 toT25)], feluccalaw08_PlanTells_L2⟩, some ⟨6, [(1, .one (.ro kT39)), (7, .one (.sc (.bool))), (18, .box 25 toT25), (19, .one (.sc (.int .i64))), (21, .box 25 toT25), (33, .one (.sc (.int .i64)))], [(1, .one (.ro kT39)), (7, .one (.sc (.bool))), (18, .box 25 toT25), (19, .one (.sc (.int .i64)))], feluccalaw08_PlanTells_L3⟩]⟩
theorem feluccalaw08_PlanTells_L3_eq (k : Nat) (x : (List T39) × Bool × T25 × Int × T25 × Int) : feluccalaw08_PlanTells_L3 (k + 1) x = roundF feluccalaw08_PlanTells_X k ⟨6, [(1, .one (.ro kT39)), (7, .one (.sc (.bool))), (18, .box 25 toT25), (19, .one (.sc (.int .i64))), (21, .box 25 toT25), (33, .one (.sc (.int .i64)))], [(1, .one (.ro kT39)), (7, .one (.sc (.bool))), (18, .box 25 toT25), (19, .one (.sc (.int .i64)))], feluccalaw08_PlanTells_L3⟩ 3 (lp feluccalaw08_PlanTells_c 3) x := by kernel_rfl
theorem feluccalaw08_PlanTells_L2_eq (k : Nat) (x : (List T39) × Bool × T25 × Int × T25 × Int) : feluccalaw08_PlanTells_L2 (k + 1) x = roundF feluccalaw08_PlanTells_X k ⟨4, [(1, .one (.ro kT39)), (7, .one (.sc (.bool))), (18, .box 25 toT25), (19, .one (.sc (.int .i64))), (21, .box 25 toT25), (32, .one (.sc (.int .i64)))], [(1, .one (.ro kT39)), (7, .one (.sc (.bool))), (18, .box 25 toT25), (19, .one (.sc (.int .i64))), (21, .box 25 toT25)], feluccalaw08_PlanTells_L2⟩ 2 (lp feluccalaw08_PlanTells_c 2) x := by kernel_rfl
theorem feluccalaw08_PlanTells_L1_eq (k : Nat) (x : (List T39) × Bool × T25 × Int) : feluccalaw08_PlanTells_L1 (k + 1) x = roundF feluccalaw08_PlanTells_X k ⟨2, [(1, .one (.ro kT39)), (7, .one (.sc (.bool))), (18, .box 25 trT25), (19, .one (.sc (.int .i64)))], [(7, .one (.sc (.bool)))], feluccalaw08_PlanTells_L1⟩ 1 (lp feluccalaw08_PlanTells_c 1) x := by kernel_rfl
theorem feluccalaw08_PlanTells_L0_eq (k : Nat) (x : (List T39) × T25 × Bool × (List T37) × Int) : feluccalaw08_PlanTells_L0 (k + 1) x = roundF feluccalaw08_PlanTells_X k ⟨0, [(1, .one (.ro kT39)), (3, .box 25 trT25), (7, .one (.sc (.bool))), (10, .one (.own 37 kT37)), (11, .one (.sc (.int .i64)))], [(1, .one (.ro kT39)), (3, .box 25 trT25), (7, .one (.sc (.bool))), (10, .one (.own 37 kT37))], feluccalaw08_PlanTells_L0⟩ 0 (lp feluccalaw08_PlanTells_c 0) x := by kernel_rfl
theorem feluccalaw08_PlanTells_eq (k : Nat) (x : T25 × (List T39) × T25) : feluccalaw08_PlanTells k x = runF feluccalaw08_PlanTells_X k feluccalaw08_PlanTells_c [.agg lT25, .one (.row 39 kT39), .agg lT25] x := by kernel_rfl
noncomputable def feluccalaw08_PlanTells_e (k : Nat) : Ent Tryz.prog := ⟨3, [.agg lT25, .one (.row 39 kT39), .agg lT25], [.one (.sc (.bool))], feluccalaw08_PlanTells k, calls_of (X := feluccalaw08_PlanTells_X) (k := k) (c := feluccalaw08_PlanTells_c) Tryz.func3 (by kernel_rfl) (by kernel_rfl) (by kernel_rfl) (LoopEqs.all (show LoopEqs feluccalaw08_PlanTells_X feluccalaw08_PlanTells_c feluccalaw08_PlanTells_X.L 0 from ⟨⟨fun _ => rfl, fun k x => feluccalaw08_PlanTells_L0_eq k x⟩, ⟨⟨fun _ => rfl, fun k x => feluccalaw08_PlanTells_L1_eq k x⟩, ⟨⟨fun _ => rfl, fun k x => feluccalaw08_PlanTells_L2_eq k x⟩, ⟨⟨fun _ => rfl, fun k x => feluccalaw08_PlanTells_L3_eq k x⟩, trivial⟩⟩⟩⟩)) (fun x => feluccalaw08_PlanTells_eq k x), fun _ _ => by kernel_rfl⟩
end Go.Proofs.YtggikacbelogcaaGreat.Ex
