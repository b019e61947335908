import Derived.Test.YtggikacbelogcaaF3
namespace Go.Proofs.Ytggikacbelogcaa.Ex
open Go
set_option linter.unusedVariables false
set_option maxHeartbeats 0
abbrev T60 := Int × Int × Int × Int × Int × Int × Int × Int × Int × Int × Int × Int × Int × Int × Int
abbrev lT60 : List LK := [.sc (.int .i64), .sc (.int .i64), .sc (.int .i64), .sc (.int .i64), .sc (.int .i64), .sc (.int .i64), .sc (.int .i64), .sc (.int .i64), .sc (.int .i64), .sc (.int .i64), .sc (.int .i64), .sc (.int .i64), .sc (.int .i64), .sc (.int .i64), .sc (.int .i64)]
abbrev toT60 : List TL := [.sc (.int .i64), .sc (.int .i64), .sc (.int .i64), .sc (.int .i64), .sc (.int .i64), .sc (.int .i64), .sc (.int .i64), .sc (.int .i64), .sc (.int .i64), .sc (.int .i64), .sc (.int .i64), .sc (.int .i64), .sc (.int .i64), .sc (.int .i64), .sc (.int .i64)]
abbrev trT60 : List TL := [.sc (.int .i64), .sc (.int .i64), .sc (.int .i64), .sc (.int .i64), .sc (.int .i64), .sc (.int .i64), .sc (.int .i64), .sc (.int .i64), .sc (.int .i64), .sc (.int .i64), .sc (.int .i64), .sc (.int .i64), .sc (.int .i64), .sc (.int .i64), .sc (.int .i64)]
abbrev kT60 : List SK := [.int .i64, .int .i64, .int .i64, .int .i64, .int .i64, .int .i64, .int .i64, .int .i64, .int .i64, .int .i64, .int .i64, .int .i64, .int .i64, .int .i64, .int .i64]
/-! felucca/feluccalaw08.span -/
noncomputable def feluccalaw08_span_c : Code := Try.f61.body.getD .skip
def feluccalaw08_span (k : Nat) : Int → Option (T58) := fun (end0) =>
  some ((1, 2, 0, 0, 0, 0, 0, 0, 1, 2, 0, end0, 4))
noncomputable def feluccalaw08_span_X : Cx Try.prog [.agg lT58] := ⟨fun k => ⟨[], [], []⟩, Try.f61.ntmps, Try.f61.results, []⟩
theorem feluccalaw08_span_eq (k : Nat) (x : Int) : feluccalaw08_span k x = runF feluccalaw08_span_X k feluccalaw08_span_c [.one (.sc (.int .i64))] x := by kernel_rfl
noncomputable def feluccalaw08_span_e (k : Nat) : Ent Try.prog := ⟨61, [.one (.sc (.int .i64))], [.agg lT58], feluccalaw08_span k, calls_of (X := feluccalaw08_span_X) (k := k) (c := feluccalaw08_span_c) Try.func61 (by kernel_rfl) (by kernel_rfl) (by kernel_rfl) (LoopEqs.all (show LoopEqs feluccalaw08_span_X feluccalaw08_span_c feluccalaw08_span_X.L 0 from trivial)) (fun x => feluccalaw08_span_eq k x), fun _ _ => by kernel_rfl⟩
/-! felucca/feluccalaw08.contact -/
noncomputable def feluccalaw08_contact_c : Code := Try.f62.body.getD .skip
def feluccalaw08_contact (k : Nat) : (Int × Int) → Option (T58) := fun (id, end1) =>
  some ((1, 1, id, 1, 2, w64 (end1 - 5), end1, 3, 0, 0, 0, 0, 0))
noncomputable def feluccalaw08_contact_X : Cx Try.prog [.agg lT58] := ⟨fun k => ⟨[], [], []⟩, Try.f62.ntmps, Try.f62.results, []⟩
theorem feluccalaw08_contact_eq (k : Nat) (x : Int × Int) : feluccalaw08_contact k x = runF feluccalaw08_contact_X k feluccalaw08_contact_c [.one (.sc (.int .i64)), .one (.sc (.int .i64))] x := by kernel_rfl
noncomputable def feluccalaw08_contact_e (k : Nat) : Ent Try.prog := ⟨62, [.one (.sc (.int .i64)), .one (.sc (.int .i64))], [.agg lT58], feluccalaw08_contact k, calls_of (X := feluccalaw08_contact_X) (k := k) (c := feluccalaw08_contact_c) Try.func62 (by kernel_rfl) (by kernel_rfl) (by kernel_rfl) (LoopEqs.all (show LoopEqs feluccalaw08_contact_X feluccalaw08_contact_c feluccalaw08_contact_X.L 0 from trivial)) (fun x => feluccalaw08_contact_eq k x), fun _ _ => by kernel_rfl⟩
/-! felucca/feluccalaw08.small -/
noncomputable def feluccalaw08_small_c : Code := Try.f34.body.getD .skip
def feluccalaw08_small (_k : Nat) : Unit → Option (Bool) := fun _ => some true
noncomputable def feluccalaw08_small_X : Cx Try.prog [.one (.sc (.bool))] := ⟨fun k => ⟨[feluccaref05_Ints_e k, plan_Right_e k, plan_Apply_e k, plan_Advance_e k, plan_Same_e k, plan_List_e k, plan_New_e k, plan_All_e k, feluccalaw08_span_e k, feluccalaw08_contact_e k, plan_Copy_e k], [], []⟩, Try.f34.ntmps, Try.f34.results, []⟩
theorem feluccalaw08_small_eq (x : Unit) : feluccalaw08_small 0 x = runF feluccalaw08_small_X 300 feluccalaw08_small_c [] x := by kernel_rfl
noncomputable def feluccalaw08_small_e (k : Nat) : Ent Try.prog := ⟨34, [], [.one (.sc (.bool))], feluccalaw08_small k, calls_of (X := feluccalaw08_small_X) (k := 300) (c := feluccalaw08_small_c) Try.func34 (by kernel_rfl) (by kernel_rfl) (by kernel_rfl) (LoopEqs.all (show LoopEqs feluccalaw08_small_X feluccalaw08_small_c feluccalaw08_small_X.L 0 from trivial)) (fun x => feluccalaw08_small_eq x), fun _ _ => by kernel_rfl⟩
/-! felucca/feluccalaw08.Few -/
noncomputable def feluccalaw08_Few_c : Code := Try.f35.body.getD .skip
def feluccalaw08_Few (k : Nat) : T52 → Option (Bool) := fun (p) =>
  bif decide (Int.ofNat (List.length p.1) ≤ 50) then
    bif decide (Int.ofNat (List.length p.2.1) ≤ 50) then
      some (true)
    else
      some (false)
  else
    some (false)
noncomputable def feluccalaw08_Few_X : Cx Try.prog [.one (.sc (.bool))] := ⟨fun k => ⟨[], [], []⟩, Try.f35.ntmps, Try.f35.results, []⟩
theorem feluccalaw08_Few_eq (k : Nat) (x : T52) : feluccalaw08_Few k x = runF feluccalaw08_Few_X k feluccalaw08_Few_c [.agg lT52] x := by kernel_rfl
noncomputable def feluccalaw08_Few_e (k : Nat) : Ent Try.prog := ⟨35, [.agg lT52], [.one (.sc (.bool))], feluccalaw08_Few k, calls_of (X := feluccalaw08_Few_X) (k := k) (c := feluccalaw08_Few_c) Try.func35 (by kernel_rfl) (by kernel_rfl) (by kernel_rfl) (LoopEqs.all (show LoopEqs feluccalaw08_Few_X feluccalaw08_Few_c feluccalaw08_Few_X.L 0 from trivial)) (fun x => feluccalaw08_Few_eq k x), fun _ _ => by kernel_rfl⟩
/-! felucca/feluccalaw08.PlanRight -/
noncomputable def feluccalaw08_PlanRight_c : Code := Try.f9.body.getD .skip
def feluccalaw08_PlanRight_L0 : Nat → ((List T60) × T52 × Bool × Int) → Option ((Bool) ⊕ (Bool))
  | 0, _ => none
  | k + 1, (o, A, a, t7) =>
  bif decide (t7 < Int.ofNat (List.length o)) then
    bif decide (0 ≤ t7) then
      bif decide (t7 < Int.ofNat (List.length o)) then
        bif decide ((List.getD o (Int.toNat t7) (0, 0, 0, 0, 0, 0, 0, 0, 0, 0, 0, 0, 0, 0, 0)).1 = 0) then
          bif decide (0 ≤ t7) then
            bif decide (t7 < Int.ofNat (List.length o)) then
              (plan_Apply k (A, (List.getD o (Int.toNat t7) (0, 0, 0, 0, 0, 0, 0, 0, 0, 0, 0, 0, 0, 0, 0)).2.1, (List.getD o (Int.toNat t7) (0, 0, 0, 0, 0, 0, 0, 0, 0, 0, 0, 0, 0, 0, 0)).2.2.1, (List.getD o (Int.toNat t7) (0, 0, 0, 0, 0, 0, 0, 0, 0, 0, 0, 0, 0, 0, 0)).2.2.2.1, (List.getD o (Int.toNat t7) (0, 0, 0, 0, 0, 0, 0, 0, 0, 0, 0, 0, 0, 0, 0)).2.2.2.2.1, (List.getD o (Int.toNat t7) (0, 0, 0, 0, 0, 0, 0, 0, 0, 0, 0, 0, 0, 0, 0)).2.2.2.2.2.1, (List.getD o (Int.toNat t7) (0, 0, 0, 0, 0, 0, 0, 0, 0, 0, 0, 0, 0, 0, 0)).2.2.2.2.2.2.1, (List.getD o (Int.toNat t7) (0, 0, 0, 0, 0, 0, 0, 0, 0, 0, 0, 0, 0, 0, 0)).2.2.2.2.2.2.2.1, (List.getD o (Int.toNat t7) (0, 0, 0, 0, 0, 0, 0, 0, 0, 0, 0, 0, 0, 0, 0)).2.2.2.2.2.2.2.2.1, (List.getD o (Int.toNat t7) (0, 0, 0, 0, 0, 0, 0, 0, 0, 0, 0, 0, 0, 0, 0)).2.2.2.2.2.2.2.2.2.1, (List.getD o (Int.toNat t7) (0, 0, 0, 0, 0, 0, 0, 0, 0, 0, 0, 0, 0, 0, 0)).2.2.2.2.2.2.2.2.2.2.1, (List.getD o (Int.toNat t7) (0, 0, 0, 0, 0, 0, 0, 0, 0, 0, 0, 0, 0, 0, 0)).2.2.2.2.2.2.2.2.2.2.2.1, (List.getD o (Int.toNat t7) (0, 0, 0, 0, 0, 0, 0, 0, 0, 0, 0, 0, 0, 0, 0)).2.2.2.2.2.2.2.2.2.2.2.2.1, (List.getD o (Int.toNat t7) (0, 0, 0, 0, 0, 0, 0, 0, 0, 0, 0, 0, 0, 0, 0)).2.2.2.2.2.2.2.2.2.2.2.2.2.1)).bind fun o_7 =>
                bif decide (0 ≤ t7) then
                  bif decide (t7 < Int.ofNat (List.length o)) then
                    bif !decide ((List.getD o (Int.toNat t7) (0, 0, 0, 0, 0, 0, 0, 0, 0, 0, 0, 0, 0, 0, 0)).1 = 0) then
                      bif decide (o_7.1.2.2.1 = A.2.2.1) then
                        (plan_Right k o_7.1).bind fun o_12 =>
                          bif o_12 then
                            bif !decide (o_7.2 = 0) then
                              (plan_Same k (o_7.1, A)).bind fun o_15 =>
                                bif o_15 then
                                  bif decide (o_7.1.2.2.1 < A.2.2.1) then
                                    some (Sum.inr false)
                                  else
                                    bif decide (o_7.2 = 0) then
                                      bif !decide (o_7.1.2.2.2 = A.2.2.2) then
                                        some (Sum.inr false)
                                      else
                                        feluccalaw08_PlanRight_L0 k (o, o_7.1, a, w64 (t7 + 1))
                                    else
                                      feluccalaw08_PlanRight_L0 k (o, o_7.1, a, w64 (t7 + 1))
                                else
                                  some (Sum.inr false)
                            else
                              bif decide (o_7.1.2.2.1 < A.2.2.1) then
                                some (Sum.inr false)
                              else
                                bif decide (o_7.2 = 0) then
                                  bif !decide (o_7.1.2.2.2 = A.2.2.2) then
                                    some (Sum.inr false)
                                  else
                                    feluccalaw08_PlanRight_L0 k (o, o_7.1, a, w64 (t7 + 1))
                                else
                                  feluccalaw08_PlanRight_L0 k (o, o_7.1, a, w64 (t7 + 1))
                          else
                            some (Sum.inr false)
                      else
                        (plan_Right k o_7.1).bind fun o_12 =>
                          bif o_12 then
                            bif !decide (o_7.2 = 0) then
                              (plan_Same k (o_7.1, A)).bind fun o_15 =>
                                bif o_15 then
                                  bif decide (o_7.1.2.2.1 < A.2.2.1) then
                                    some (Sum.inr false)
                                  else
                                    bif decide (o_7.2 = 0) then
                                      bif !decide (o_7.1.2.2.2 = mn (w64 (A.2.2.2 + 1)) 1099511627776) then
                                        some (Sum.inr false)
                                      else
                                        feluccalaw08_PlanRight_L0 k (o, o_7.1, a, w64 (t7 + 1))
                                    else
                                      feluccalaw08_PlanRight_L0 k (o, o_7.1, a, w64 (t7 + 1))
                                else
                                  some (Sum.inr false)
                            else
                              bif decide (o_7.1.2.2.1 < A.2.2.1) then
                                some (Sum.inr false)
                              else
                                bif decide (o_7.2 = 0) then
                                  bif !decide (o_7.1.2.2.2 = mn (w64 (A.2.2.2 + 1)) 1099511627776) then
                                    some (Sum.inr false)
                                  else
                                    feluccalaw08_PlanRight_L0 k (o, o_7.1, a, w64 (t7 + 1))
                                else
                                  feluccalaw08_PlanRight_L0 k (o, o_7.1, a, w64 (t7 + 1))
                          else
                            some (Sum.inr false)
                    else
                      (plan_Right k o_7.1).bind fun o_11 =>
                        bif o_11 then
                          bif !decide (o_7.2 = 0) then
                            (plan_Same k (o_7.1, A)).bind fun o_14 =>
                              bif o_14 then
                                bif decide (o_7.1.2.2.1 < A.2.2.1) then
                                  some (Sum.inr false)
                                else
                                  bif decide (o_7.2 = 0) then
                                    bif !decide (o_7.1.2.2.2 = mn (w64 (A.2.2.2 + 1)) 1099511627776) then
                                      some (Sum.inr false)
                                    else
                                      feluccalaw08_PlanRight_L0 k (o, o_7.1, a, w64 (t7 + 1))
                                  else
                                    feluccalaw08_PlanRight_L0 k (o, o_7.1, a, w64 (t7 + 1))
                              else
                                some (Sum.inr false)
                          else
                            bif decide (o_7.1.2.2.1 < A.2.2.1) then
                              some (Sum.inr false)
                            else
                              bif decide (o_7.2 = 0) then
                                bif !decide (o_7.1.2.2.2 = mn (w64 (A.2.2.2 + 1)) 1099511627776) then
                                  some (Sum.inr false)
                                else
                                  feluccalaw08_PlanRight_L0 k (o, o_7.1, a, w64 (t7 + 1))
                              else
                                feluccalaw08_PlanRight_L0 k (o, o_7.1, a, w64 (t7 + 1))
                        else
                          some (Sum.inr false)
                  else
                    none
                else
                  none
            else
              none
          else
            none
        else
          bif decide (0 ≤ t7) then
            bif decide (t7 < Int.ofNat (List.length o)) then
              (plan_Advance k (A, (List.getD o (Int.toNat t7) (0, 0, 0, 0, 0, 0, 0, 0, 0, 0, 0, 0, 0, 0, 0)).2.2.2.2.2.2.2.2.2.2.2.2.2.2)).bind fun o_7 =>
                bif !decide (w64 (Int.ofNat (List.length o_7.1.1) + Int.ofNat (List.length o_7.2.1)) = Int.ofNat (List.length A.1)) then
                  some (Sum.inr false)
                else
                  bif decide (o_7.2.2 = 0) then
                    bif decide (0 ≤ t7) then
                      bif decide (t7 < Int.ofNat (List.length o)) then
                        bif !decide (o_7.1.2.2.1 = (List.getD o (Int.toNat t7) (0, 0, 0, 0, 0, 0, 0, 0, 0, 0, 0, 0, 0, 0, 0)).2.2.2.2.2.2.2.2.2.2.2.2.2.2) then
                          some (Sum.inr false)
                        else
                          bif decide (0 ≤ t7) then
                            bif decide (t7 < Int.ofNat (List.length o)) then
                              bif !decide ((List.getD o (Int.toNat t7) (0, 0, 0, 0, 0, 0, 0, 0, 0, 0, 0, 0, 0, 0, 0)).1 = 0) then
                                bif decide (o_7.1.2.2.1 = A.2.2.1) then
                                  (plan_Right k o_7.1).bind fun o_17 =>
                                    bif o_17 then
                                      bif !decide (o_7.2.2 = 0) then
                                        (plan_Same k (o_7.1, A)).bind fun o_20 =>
                                          bif o_20 then
                                            bif decide (o_7.1.2.2.1 < A.2.2.1) then
                                              some (Sum.inr false)
                                            else
                                              bif decide (o_7.2.2 = 0) then
                                                bif !decide (o_7.1.2.2.2 = A.2.2.2) then
                                                  some (Sum.inr false)
                                                else
                                                  feluccalaw08_PlanRight_L0 k (o, o_7.1, a, w64 (t7 + 1))
                                              else
                                                feluccalaw08_PlanRight_L0 k (o, o_7.1, a, w64 (t7 + 1))
                                          else
                                            some (Sum.inr false)
                                      else
                                        bif decide (o_7.1.2.2.1 < A.2.2.1) then
                                          some (Sum.inr false)
                                        else
                                          bif decide (o_7.2.2 = 0) then
                                            bif !decide (o_7.1.2.2.2 = A.2.2.2) then
                                              some (Sum.inr false)
                                            else
                                              feluccalaw08_PlanRight_L0 k (o, o_7.1, a, w64 (t7 + 1))
                                          else
                                            feluccalaw08_PlanRight_L0 k (o, o_7.1, a, w64 (t7 + 1))
                                    else
                                      some (Sum.inr false)
                                else
                                  (plan_Right k o_7.1).bind fun o_17 =>
                                    bif o_17 then
                                      bif !decide (o_7.2.2 = 0) then
                                        (plan_Same k (o_7.1, A)).bind fun o_20 =>
                                          bif o_20 then
                                            bif decide (o_7.1.2.2.1 < A.2.2.1) then
                                              some (Sum.inr false)
                                            else
                                              bif decide (o_7.2.2 = 0) then
                                                bif !decide (o_7.1.2.2.2 = mn (w64 (A.2.2.2 + 1)) 1099511627776) then
                                                  some (Sum.inr false)
                                                else
                                                  feluccalaw08_PlanRight_L0 k (o, o_7.1, a, w64 (t7 + 1))
                                              else
                                                feluccalaw08_PlanRight_L0 k (o, o_7.1, a, w64 (t7 + 1))
                                          else
                                            some (Sum.inr false)
                                      else
                                        bif decide (o_7.1.2.2.1 < A.2.2.1) then
                                          some (Sum.inr false)
                                        else
                                          bif decide (o_7.2.2 = 0) then
                                            bif !decide (o_7.1.2.2.2 = mn (w64 (A.2.2.2 + 1)) 1099511627776) then
                                              some (Sum.inr false)
                                            else
                                              feluccalaw08_PlanRight_L0 k (o, o_7.1, a, w64 (t7 + 1))
                                          else
                                            feluccalaw08_PlanRight_L0 k (o, o_7.1, a, w64 (t7 + 1))
                                    else
                                      some (Sum.inr false)
                              else
                                (plan_Right k o_7.1).bind fun o_16 =>
                                  bif o_16 then
                                    bif !decide (o_7.2.2 = 0) then
                                      (plan_Same k (o_7.1, A)).bind fun o_19 =>
                                        bif o_19 then
                                          bif decide (o_7.1.2.2.1 < A.2.2.1) then
                                            some (Sum.inr false)
                                          else
                                            bif decide (o_7.2.2 = 0) then
                                              bif !decide (o_7.1.2.2.2 = mn (w64 (A.2.2.2 + 1)) 1099511627776) then
                                                some (Sum.inr false)
                                              else
                                                feluccalaw08_PlanRight_L0 k (o, o_7.1, a, w64 (t7 + 1))
                                            else
                                              feluccalaw08_PlanRight_L0 k (o, o_7.1, a, w64 (t7 + 1))
                                        else
                                          some (Sum.inr false)
                                    else
                                      bif decide (o_7.1.2.2.1 < A.2.2.1) then
                                        some (Sum.inr false)
                                      else
                                        bif decide (o_7.2.2 = 0) then
                                          bif !decide (o_7.1.2.2.2 = mn (w64 (A.2.2.2 + 1)) 1099511627776) then
                                            some (Sum.inr false)
                                          else
                                            feluccalaw08_PlanRight_L0 k (o, o_7.1, a, w64 (t7 + 1))
                                        else
                                          feluccalaw08_PlanRight_L0 k (o, o_7.1, a, w64 (t7 + 1))
                                  else
                                    some (Sum.inr false)
                            else
                              none
                          else
                            none
                      else
                        none
                    else
                      none
                  else
                    bif decide (0 ≤ t7) then
                      bif decide (t7 < Int.ofNat (List.length o)) then
                        bif !decide ((List.getD o (Int.toNat t7) (0, 0, 0, 0, 0, 0, 0, 0, 0, 0, 0, 0, 0, 0, 0)).1 = 0) then
                          bif decide (o_7.1.2.2.1 = A.2.2.1) then
                            (plan_Right k o_7.1).bind fun o_14 =>
                              bif o_14 then
                                bif !decide (o_7.2.2 = 0) then
                                  (plan_Same k (o_7.1, A)).bind fun o_17 =>
                                    bif o_17 then
                                      bif decide (o_7.1.2.2.1 < A.2.2.1) then
                                        some (Sum.inr false)
                                      else
                                        bif decide (o_7.2.2 = 0) then
                                          bif !decide (o_7.1.2.2.2 = A.2.2.2) then
                                            some (Sum.inr false)
                                          else
                                            feluccalaw08_PlanRight_L0 k (o, o_7.1, a, w64 (t7 + 1))
                                        else
                                          feluccalaw08_PlanRight_L0 k (o, o_7.1, a, w64 (t7 + 1))
                                    else
                                      some (Sum.inr false)
                                else
                                  bif decide (o_7.1.2.2.1 < A.2.2.1) then
                                    some (Sum.inr false)
                                  else
                                    bif decide (o_7.2.2 = 0) then
                                      bif !decide (o_7.1.2.2.2 = A.2.2.2) then
                                        some (Sum.inr false)
                                      else
                                        feluccalaw08_PlanRight_L0 k (o, o_7.1, a, w64 (t7 + 1))
                                    else
                                      feluccalaw08_PlanRight_L0 k (o, o_7.1, a, w64 (t7 + 1))
                              else
                                some (Sum.inr false)
                          else
                            (plan_Right k o_7.1).bind fun o_14 =>
                              bif o_14 then
                                bif !decide (o_7.2.2 = 0) then
                                  (plan_Same k (o_7.1, A)).bind fun o_17 =>
                                    bif o_17 then
                                      bif decide (o_7.1.2.2.1 < A.2.2.1) then
                                        some (Sum.inr false)
                                      else
                                        bif decide (o_7.2.2 = 0) then
                                          bif !decide (o_7.1.2.2.2 = mn (w64 (A.2.2.2 + 1)) 1099511627776) then
                                            some (Sum.inr false)
                                          else
                                            feluccalaw08_PlanRight_L0 k (o, o_7.1, a, w64 (t7 + 1))
                                        else
                                          feluccalaw08_PlanRight_L0 k (o, o_7.1, a, w64 (t7 + 1))
                                    else
                                      some (Sum.inr false)
                                else
                                  bif decide (o_7.1.2.2.1 < A.2.2.1) then
                                    some (Sum.inr false)
                                  else
                                    bif decide (o_7.2.2 = 0) then
                                      bif !decide (o_7.1.2.2.2 = mn (w64 (A.2.2.2 + 1)) 1099511627776) then
                                        some (Sum.inr false)
                                      else
                                        feluccalaw08_PlanRight_L0 k (o, o_7.1, a, w64 (t7 + 1))
                                    else
                                      feluccalaw08_PlanRight_L0 k (o, o_7.1, a, w64 (t7 + 1))
                              else
                                some (Sum.inr false)
                        else
                          (plan_Right k o_7.1).bind fun o_13 =>
                            bif o_13 then
                              bif !decide (o_7.2.2 = 0) then
                                (plan_Same k (o_7.1, A)).bind fun o_16 =>
                                  bif o_16 then
                                    bif decide (o_7.1.2.2.1 < A.2.2.1) then
                                      some (Sum.inr false)
                                    else
                                      bif decide (o_7.2.2 = 0) then
                                        bif !decide (o_7.1.2.2.2 = mn (w64 (A.2.2.2 + 1)) 1099511627776) then
                                          some (Sum.inr false)
                                        else
                                          feluccalaw08_PlanRight_L0 k (o, o_7.1, a, w64 (t7 + 1))
                                      else
                                        feluccalaw08_PlanRight_L0 k (o, o_7.1, a, w64 (t7 + 1))
                                  else
                                    some (Sum.inr false)
                              else
                                bif decide (o_7.1.2.2.1 < A.2.2.1) then
                                  some (Sum.inr false)
                                else
                                  bif decide (o_7.2.2 = 0) then
                                    bif !decide (o_7.1.2.2.2 = mn (w64 (A.2.2.2 + 1)) 1099511627776) then
                                      some (Sum.inr false)
                                    else
                                      feluccalaw08_PlanRight_L0 k (o, o_7.1, a, w64 (t7 + 1))
                                  else
                                    feluccalaw08_PlanRight_L0 k (o, o_7.1, a, w64 (t7 + 1))
                            else
                              some (Sum.inr false)
                      else
                        none
                    else
                      none
            else
              none
          else
            none
      else
        none
    else
      none
  else
    some (Sum.inl a)
def feluccalaw08_PlanRight (k : Nat) : (T52 × (List T60)) → Option (Bool) := fun (t, o) =>
  (feluccalaw08_small k ()).bind fun o_1 =>
    bif o_1 then
      (feluccalaw08_Few k t).bind fun o_3 =>
        bif o_3 then
          bif decide (50 < Int.ofNat (List.length o)) then
            some (true)
          else
            (plan_Right k t).bind fun o_6 =>
              bif o_6 then
                (feluccalaw08_PlanRight_L0 k (o, t, true, 0)).bind fun o_8 =>
                  match o_8 with
                  | .inl o_9 =>
                    bif o_9 then
                      some (true)
                    else
                      some (false)
                  | .inr o_9 =>
                    some (o_9)
              else
                some (true)
        else
          some (true)
    else
      (feluccalaw08_Few k t).bind fun o_3 =>
        bif o_3 then
          bif decide (50 < Int.ofNat (List.length o)) then
            some (false)
          else
            (plan_Right k t).bind fun o_6 =>
              bif o_6 then
                (feluccalaw08_PlanRight_L0 k (o, t, false, 0)).bind fun o_8 =>
                  match o_8 with
                  | .inl o_9 =>
                    bif o_9 then
                      some (true)
                    else
                      some (false)
                  | .inr o_9 =>
                    some (o_9)
              else
                some (false)
        else
          some (false)
noncomputable def feluccalaw08_PlanRight_X : Cx Try.prog [.one (.sc (.bool))] := ⟨fun k => ⟨[feluccalaw08_small_e k, feluccalaw08_Few_e k, plan_Right_e k, plan_Apply_e k, plan_Advance_e k, plan_Same_e k], [], []⟩, Try.f9.ntmps, Try.f9.results, [some ⟨0, [(1, .one (.ro kT60)), (2, .box 52 trT52), (5, .one (.sc (.bool))), (7, .one (.sc (.int .i64)))], [(5, .one (.sc (.bool)))], feluccalaw08_PlanRight_L0⟩]⟩
theorem feluccalaw08_PlanRight_L0_eq (k : Nat) (x : (List T60) × T52 × Bool × Int) : feluccalaw08_PlanRight_L0 (k + 1) x = roundF feluccalaw08_PlanRight_X k ⟨0, [(1, .one (.ro kT60)), (2, .box 52 trT52), (5, .one (.sc (.bool))), (7, .one (.sc (.int .i64)))], [(5, .one (.sc (.bool)))], feluccalaw08_PlanRight_L0⟩ 0 (lp feluccalaw08_PlanRight_c 0) x := by kernel_rfl
theorem feluccalaw08_PlanRight_eq (k : Nat) (x : T52 × (List T60)) : feluccalaw08_PlanRight k x = runF feluccalaw08_PlanRight_X k feluccalaw08_PlanRight_c [.agg lT52, .one (.row 60 kT60)] x := by kernel_rfl
noncomputable def feluccalaw08_PlanRight_e (k : Nat) : Ent Try.prog := ⟨9, [.agg lT52, .one (.row 60 kT60)], [.one (.sc (.bool))], feluccalaw08_PlanRight k, calls_of (X := feluccalaw08_PlanRight_X) (k := k) (c := feluccalaw08_PlanRight_c) Try.func9 (by kernel_rfl) (by kernel_rfl) (by kernel_rfl) (LoopEqs.all (show LoopEqs feluccalaw08_PlanRight_X feluccalaw08_PlanRight_c feluccalaw08_PlanRight_X.L 0 from ⟨⟨fun _ => rfl, fun k x => feluccalaw08_PlanRight_L0_eq k x⟩, trivial⟩)) (fun x => feluccalaw08_PlanRight_eq k x), fun _ _ => by kernel_rfl⟩
/-! felucca/feluccalaw08.PlanLists -/
noncomputable def feluccalaw08_PlanLists_c : Code := Try.f10.body.getD .skip
def feluccalaw08_PlanLists (k : Nat) : T52 → Option (Bool) := fun (p) =>
  (feluccalaw08_small k ()).bind fun o_1 =>
    bif o_1 then
      (feluccalaw08_Few k p).bind fun o_3 =>
        bif o_3 then
          (plan_Right k p).bind fun o_5 =>
            bif o_5 then
              (plan_List k p).bind fun o_7 =>
                (plan_New k ()).bind fun o_8 =>
                  (plan_Advance k (o_8, p.2.2.1)).bind fun o_9 =>
                    (plan_All k (o_9.1, o_7)).bind fun o_10 =>
                      bif decide (o_9.2.2 = 0) then
                        bif decide (o_10.2.2 = 0) then
                          bif decide (o_10.2.1 = Int.ofNat (List.length o_7)) then
                            bif decide (o_10.2.1 = w64 (Int.ofNat (List.length p.1) + Int.ofNat (List.length p.2.1))) then
                              bif decide (o_10.1.2.2.1 = p.2.2.1) then
                                (contacts_Same k (o_10.1.1, p.1)).bind fun o_16 =>
                                  bif o_16 then
                                    (ranges_Same k (o_10.1.2.1, p.2.1)).bind fun o_18 =>
                                      bif o_18 then
                                        some (true)
                                      else
                                        some (false)
                                  else
                                    some (false)
                              else
                                some (false)
                            else
                              some (false)
                          else
                            some (false)
                        else
                          some (false)
                      else
                        some (false)
            else
              some (true)
        else
          some (true)
    else
      (feluccalaw08_Few k p).bind fun o_3 =>
        bif o_3 then
          (plan_Right k p).bind fun o_5 =>
            bif o_5 then
              (plan_List k p).bind fun o_7 =>
                (plan_New k ()).bind fun o_8 =>
                  (plan_Advance k (o_8, p.2.2.1)).bind fun o_9 =>
                    (plan_All k (o_9.1, o_7)).bind fun o_10 =>
                      some (false)
            else
              some (false)
        else
          some (false)
noncomputable def feluccalaw08_PlanLists_X : Cx Try.prog [.one (.sc (.bool))] := ⟨fun k => ⟨[contacts_Same_e k, feluccalaw08_small_e k, feluccalaw08_Few_e k, plan_Right_e k, plan_Advance_e k, plan_List_e k, plan_New_e k, plan_All_e k, ranges_Same_e k], [], []⟩, Try.f10.ntmps, Try.f10.results, []⟩
theorem feluccalaw08_PlanLists_eq (k : Nat) (x : T52) : feluccalaw08_PlanLists k x = runF feluccalaw08_PlanLists_X k feluccalaw08_PlanLists_c [.agg lT52] x := by kernel_rfl
noncomputable def feluccalaw08_PlanLists_e (k : Nat) : Ent Try.prog := ⟨10, [.agg lT52], [.one (.sc (.bool))], feluccalaw08_PlanLists k, calls_of (X := feluccalaw08_PlanLists_X) (k := k) (c := feluccalaw08_PlanLists_c) Try.func10 (by kernel_rfl) (by kernel_rfl) (by kernel_rfl) (LoopEqs.all (show LoopEqs feluccalaw08_PlanLists_X feluccalaw08_PlanLists_c feluccalaw08_PlanLists_X.L 0 from trivial)) (fun x => feluccalaw08_PlanLists_eq k x), fun _ _ => by kernel_rfl⟩
/-! felucca/feluccalaw08.PlanWhole -/
noncomputable def feluccalaw08_PlanWhole_c : Code := Try.f11.body.getD .skip
def feluccalaw08_PlanWhole_L0 : Nat → ((List T58) × T52 × Bool × T52 × Int × Int × T52 × Int) → Option (((List T58) × Bool × T52 × Int × Int × T52) ⊕ (Bool))
  | 0, _ => none
  | k + 1, (l, p, head, q, n, e9, x10, i) =>
  bif decide (i < Int.ofNat (List.length l)) then
    bif decide (0 ≤ i) then
      bif decide (i < Int.ofNat (List.length l)) then
        (plan_Apply k (x10, List.getD l (Int.toNat i) (0, 0, 0, 0, 0, 0, 0, 0, 0, 0, 0, 0, 0))).bind fun o_4 =>
          bif !decide (o_4.2 = 0) then
            bif head then
              bif decide (n = i) then
                bif decide (e9 = o_4.2) then
                  (plan_Same k (q, p)).bind fun o_9 =>
                    bif o_9 then
                      some (Sum.inr true)
                    else
                      some (Sum.inr false)
                else
                  some (Sum.inr false)
              else
                some (Sum.inr false)
            else
              some (Sum.inr false)
          else
            feluccalaw08_PlanWhole_L0 k (l, p, head, q, n, e9, o_4.1, w64 (i + 1))
      else
        none
    else
      none
  else
    some (Sum.inl (l, head, q, n, e9, x10))
def feluccalaw08_PlanWhole (k : Nat) : (T52 × (List T58)) → Option (Bool) := fun (p, l) =>
  (feluccalaw08_small k ()).bind fun o_1 =>
    bif o_1 then
      (feluccalaw08_Few k p).bind fun o_3 =>
        bif o_3 then
          bif decide (50 < Int.ofNat (List.length l)) then
            some (true)
          else
            (plan_Right k p).bind fun o_6 =>
              bif o_6 then
                (plan_All k (p, l)).bind fun o_8 =>
                  (feluccalaw08_PlanWhole_L0 k (l, p, true, o_8.1, o_8.2.1, o_8.2.2, p, 0)).bind fun o_9 =>
                    match o_9 with
                    | .inl o_10 =>
                      bif o_10.2.1 then
                        bif decide (o_10.2.2.2.1 = Int.ofNat (List.length o_10.1)) then
                          bif decide (o_10.2.2.2.2.1 = 0) then
                            (plan_Same k (o_10.2.2.1, o_10.2.2.2.2.2)).bind fun o_14 =>
                              bif o_14 then
                                some (true)
                              else
                                some (false)
                          else
                            some (false)
                        else
                          some (false)
                      else
                        some (false)
                    | .inr o_10 =>
                      some (o_10)
              else
                some (true)
        else
          some (true)
    else
      (feluccalaw08_Few k p).bind fun o_3 =>
        bif o_3 then
          bif decide (50 < Int.ofNat (List.length l)) then
            some (false)
          else
            (plan_Right k p).bind fun o_6 =>
              bif o_6 then
                (plan_All k (p, l)).bind fun o_8 =>
                  (feluccalaw08_PlanWhole_L0 k (l, p, false, o_8.1, o_8.2.1, o_8.2.2, p, 0)).bind fun o_9 =>
                    match o_9 with
                    | .inl o_10 =>
                      bif o_10.2.1 then
                        bif decide (o_10.2.2.2.1 = Int.ofNat (List.length o_10.1)) then
                          bif decide (o_10.2.2.2.2.1 = 0) then
                            (plan_Same k (o_10.2.2.1, o_10.2.2.2.2.2)).bind fun o_14 =>
                              bif o_14 then
                                some (true)
                              else
                                some (false)
                          else
                            some (false)
                        else
                          some (false)
                      else
                        some (false)
                    | .inr o_10 =>
                      some (o_10)
              else
                some (false)
        else
          some (false)
noncomputable def feluccalaw08_PlanWhole_X : Cx Try.prog [.one (.sc (.bool))] := ⟨fun k => ⟨[feluccalaw08_small_e k, feluccalaw08_Few_e k, plan_Right_e k, plan_Apply_e k, plan_Same_e k, plan_All_e k], [], []⟩, Try.f11.ntmps, Try.f11.results, [some ⟨0, [(1, .one (.ro kT58)), (2, .box 52 trT52), (5, .one (.sc (.bool))), (7, .box 52 toT52), (8, .one (.sc (.int .i64))), (9, .one (.sc (.int .i64))), (10, .box 52 trT52), (11, .one (.sc (.int .i64)))], [(1, .one (.ro kT58)), (5, .one (.sc (.bool))), (7, .box 52 toT52), (8, .one (.sc (.int .i64))), (9, .one (.sc (.int .i64))), (10, .box 52 trT52)], feluccalaw08_PlanWhole_L0⟩]⟩
theorem feluccalaw08_PlanWhole_L0_eq (k : Nat) (x : (List T58) × T52 × Bool × T52 × Int × Int × T52 × Int) : feluccalaw08_PlanWhole_L0 (k + 1) x = roundF feluccalaw08_PlanWhole_X k ⟨0, [(1, .one (.ro kT58)), (2, .box 52 trT52), (5, .one (.sc (.bool))), (7, .box 52 toT52), (8, .one (.sc (.int .i64))), (9, .one (.sc (.int .i64))), (10, .box 52 trT52), (11, .one (.sc (.int .i64)))], [(1, .one (.ro kT58)), (5, .one (.sc (.bool))), (7, .box 52 toT52), (8, .one (.sc (.int .i64))), (9, .one (.sc (.int .i64))), (10, .box 52 trT52)], feluccalaw08_PlanWhole_L0⟩ 0 (lp feluccalaw08_PlanWhole_c 0) x := by kernel_rfl
theorem feluccalaw08_PlanWhole_eq (k : Nat) (x : T52 × (List T58)) : feluccalaw08_PlanWhole k x = runF feluccalaw08_PlanWhole_X k feluccalaw08_PlanWhole_c [.agg lT52, .one (.row 58 kT58)] x := by kernel_rfl
noncomputable def feluccalaw08_PlanWhole_e (k : Nat) : Ent Try.prog := ⟨11, [.agg lT52, .one (.row 58 kT58)], [.one (.sc (.bool))], feluccalaw08_PlanWhole k, calls_of (X := feluccalaw08_PlanWhole_X) (k := k) (c := feluccalaw08_PlanWhole_c) Try.func11 (by kernel_rfl) (by kernel_rfl) (by kernel_rfl) (LoopEqs.all (show LoopEqs feluccalaw08_PlanWhole_X feluccalaw08_PlanWhole_c feluccalaw08_PlanWhole_X.L 0 from ⟨⟨fun _ => rfl, fun k x => feluccalaw08_PlanWhole_L0_eq k x⟩, trivial⟩)) (fun x => feluccalaw08_PlanWhole_eq k x), fun _ _ => by kernel_rfl⟩
/-! felucca/feluccalaw08.PlanSkips -/
noncomputable def feluccalaw08_PlanSkips_c : Code := Try.f12.body.getD .skip
def feluccalaw08_PlanSkips (k : Nat) : (T52 × Int × Int) → Option (Bool) := fun (p, now, later) =>
  (feluccalaw08_small k ()).bind fun o_1 =>
    bif o_1 then
      (feluccalaw08_Few k p).bind fun o_3 =>
        bif o_3 then
          (plan_Right k p).bind fun o_5 =>
            bif o_5 then
              bif decide (now < p.2.2.1) then
                some (true)
              else
                bif decide (later < now) then
                  some (true)
                else
                  bif decide (2147483647 < later) then
                    some (true)
                  else
                    (plan_Advance k (p, now)).bind fun o_10 =>
                      (plan_Advance k (o_10.1, later)).bind fun o_11 =>
                        (plan_Advance k (p, later)).bind fun o_12 =>
                          bif decide (o_10.2.2 = 0) then
                            bif decide (o_11.2.2 = 0) then
                              bif decide (o_12.2.2 = 0) then
                                (contacts_Same k (o_11.1.1, o_12.1.1)).bind fun o_16 =>
                                  bif o_16 then
                                    (ranges_Same k (o_11.1.2.1, o_12.1.2.1)).bind fun o_18 =>
                                      bif o_18 then
                                        bif decide (o_11.1.2.2.1 = o_12.1.2.2.1) then
                                          bif decide (w64 (Int.ofNat (List.length o_10.2.1) + Int.ofNat (List.length o_11.2.1)) = Int.ofNat (List.length o_12.2.1)) then
                                            some (true)
                                          else
                                            some (false)
                                        else
                                          some (false)
                                      else
                                        some (false)
                                  else
                                    some (false)
                              else
                                some (false)
                            else
                              some (false)
                          else
                            some (false)
            else
              some (true)
        else
          some (true)
    else
      (feluccalaw08_Few k p).bind fun o_3 =>
        bif o_3 then
          (plan_Right k p).bind fun o_5 =>
            bif o_5 then
              bif decide (now < p.2.2.1) then
                some (false)
              else
                bif decide (later < now) then
                  some (false)
                else
                  bif decide (2147483647 < later) then
                    some (false)
                  else
                    (plan_Advance k (p, now)).bind fun o_10 =>
                      (plan_Advance k (o_10.1, later)).bind fun o_11 =>
                        (plan_Advance k (p, later)).bind fun o_12 =>
                          some (false)
            else
              some (false)
        else
          some (false)
noncomputable def feluccalaw08_PlanSkips_X : Cx Try.prog [.one (.sc (.bool))] := ⟨fun k => ⟨[contacts_Same_e k, feluccalaw08_small_e k, feluccalaw08_Few_e k, plan_Right_e k, plan_Advance_e k, ranges_Same_e k], [], []⟩, Try.f12.ntmps, Try.f12.results, []⟩
theorem feluccalaw08_PlanSkips_eq (k : Nat) (x : T52 × Int × Int) : feluccalaw08_PlanSkips k x = runF feluccalaw08_PlanSkips_X k feluccalaw08_PlanSkips_c [.agg lT52, .one (.sc (.int .i64)), .one (.sc (.int .i64))] x := by kernel_rfl
noncomputable def feluccalaw08_PlanSkips_e (k : Nat) : Ent Try.prog := ⟨12, [.agg lT52, .one (.sc (.int .i64)), .one (.sc (.int .i64))], [.one (.sc (.bool))], feluccalaw08_PlanSkips k, calls_of (X := feluccalaw08_PlanSkips_X) (k := k) (c := feluccalaw08_PlanSkips_c) Try.func12 (by kernel_rfl) (by kernel_rfl) (by kernel_rfl) (LoopEqs.all (show LoopEqs feluccalaw08_PlanSkips_X feluccalaw08_PlanSkips_c feluccalaw08_PlanSkips_X.L 0 from trivial)) (fun x => feluccalaw08_PlanSkips_eq k x), fun _ _ => by kernel_rfl⟩
/-! felucca/feluccalaw08.PlanTwice -/
noncomputable def feluccalaw08_PlanTwice_c : Code := Try.f13.body.getD .skip
def feluccalaw08_PlanTwice (k : Nat) : (T52 × T28) → Option (Bool) := fun (p, c1) =>
  (feluccalaw08_small k ()).bind fun o_1 =>
    bif o_1 then
      (feluccalaw08_Few k p).bind fun o_3 =>
        bif o_3 then
          (plan_Right k p).bind fun o_5 =>
            bif o_5 then
              (plan_Apply k (p, 1, 1, c1.1, c1.2.1, c1.2.2.1, c1.2.2.2.1, c1.2.2.2.2.1, c1.2.2.2.2.2, 0, 0, 0, 0, 0)).bind fun o_7 =>
                bif !decide (o_7.2 = 0) then
                  (plan_Same k (o_7.1, p)).bind fun o_9 =>
                    bif o_9 then
                      some (true)
                    else
                      some (false)
                else
                  (plan_Apply k (o_7.1, 2, 1, c1.1, 0, 0, 0, 0, 0, 0, 0, 0, 0, 0)).bind fun o_9 =>
                    bif decide (o_9.2 = 0) then
                      (contacts_Same k (o_9.1.1, p.1)).bind fun o_11 =>
                        bif o_11 then
                          (ranges_Same k (o_9.1.2.1, p.2.1)).bind fun o_13 =>
                            bif o_13 then
                              bif decide (o_9.1.2.2.1 = p.2.2.1) then
                                bif decide (p.2.2.1 < c1.2.2.2.2.1) then
                                  some (true)
                                else
                                  some (false)
                              else
                                some (false)
                            else
                              some (false)
                        else
                          some (false)
                    else
                      some (false)
            else
              some (true)
        else
          some (true)
    else
      (feluccalaw08_Few k p).bind fun o_3 =>
        bif o_3 then
          (plan_Right k p).bind fun o_5 =>
            bif o_5 then
              (plan_Apply k (p, 1, 1, c1.1, c1.2.1, c1.2.2.1, c1.2.2.2.1, c1.2.2.2.2.1, c1.2.2.2.2.2, 0, 0, 0, 0, 0)).bind fun o_7 =>
                bif !decide (o_7.2 = 0) then
                  some (false)
                else
                  (plan_Apply k (o_7.1, 2, 1, c1.1, 0, 0, 0, 0, 0, 0, 0, 0, 0, 0)).bind fun o_9 =>
                    some (false)
            else
              some (false)
        else
          some (false)
noncomputable def feluccalaw08_PlanTwice_X : Cx Try.prog [.one (.sc (.bool))] := ⟨fun k => ⟨[contacts_Same_e k, feluccalaw08_small_e k, feluccalaw08_Few_e k, plan_Right_e k, plan_Apply_e k, plan_Same_e k, ranges_Same_e k], [], []⟩, Try.f13.ntmps, Try.f13.results, []⟩
theorem feluccalaw08_PlanTwice_eq (k : Nat) (x : T52 × T28) : feluccalaw08_PlanTwice k x = runF feluccalaw08_PlanTwice_X k feluccalaw08_PlanTwice_c [.agg lT52, .agg lT28] x := by kernel_rfl
noncomputable def feluccalaw08_PlanTwice_e (k : Nat) : Ent Try.prog := ⟨13, [.agg lT52, .agg lT28], [.one (.sc (.bool))], feluccalaw08_PlanTwice k, calls_of (X := feluccalaw08_PlanTwice_X) (k := k) (c := feluccalaw08_PlanTwice_c) Try.func13 (by kernel_rfl) (by kernel_rfl) (by kernel_rfl) (LoopEqs.all (show LoopEqs feluccalaw08_PlanTwice_X feluccalaw08_PlanTwice_c feluccalaw08_PlanTwice_X.L 0 from trivial)) (fun x => feluccalaw08_PlanTwice_eq k x), fun _ _ => by kernel_rfl⟩
/-! felucca/feluccalaw08.PlanEnds -/
noncomputable def feluccalaw08_PlanEnds_c : Code := Try.f14.body.getD .skip
def feluccalaw08_PlanEnds_L1 : Nat → (Int × T52 × Bool × T52 × Int × Int) → Option ((Int × Bool × T52 × Int) ⊕ (Bool))
  | 0, _ => none
  | k + 1, (now, p, head, q, n, i) =>
  bif decide (i < Int.ofNat (List.length p.2.1)) then
    bif decide (0 ≤ i) then
      bif decide (i < Int.ofNat (List.length p.2.1)) then
        bif decide (now < (List.getD p.2.1 (Int.toNat i) (0, 0, 0, 0, 0)).2.2.2.1) then
          feluccalaw08_PlanEnds_L1 k (now, p, head, q, w64 (n + 1), w64 (i + 1))
        else
          feluccalaw08_PlanEnds_L1 k (now, p, head, q, n, w64 (i + 1))
      else
        none
    else
      none
  else
    some (Sum.inl (now, head, q, n))
def feluccalaw08_PlanEnds_L0 : Nat → (Int × T52 × Bool × T52 × Int) → Option ((Int × T52 × Bool × T52) ⊕ (Bool))
  | 0, _ => none
  | k + 1, (now, p, head, q, i) =>
  bif decide (i < Int.ofNat (List.length p.1)) then
    bif decide (0 ≤ i) then
      bif decide (i < Int.ofNat (List.length p.1)) then
        (contacts_Find k (q.1, (List.getD p.1 (Int.toNat i) (0, 0, 0, 0, 0, 0)).1)).bind fun o_4 =>
          bif o_4.2 then
            bif decide (now < (List.getD p.1 (Int.toNat i) (0, 0, 0, 0, 0, 0)).2.2.2.2.1) then
              bif !(o_4.1.1 == (List.getD p.1 (Int.toNat i) (0, 0, 0, 0, 0, 0)).1 && (o_4.1.2.1 == (List.getD p.1 (Int.toNat i) (0, 0, 0, 0, 0, 0)).2.1 && (o_4.1.2.2.1 == (List.getD p.1 (Int.toNat i) (0, 0, 0, 0, 0, 0)).2.2.1 && (o_4.1.2.2.2.1 == (List.getD p.1 (Int.toNat i) (0, 0, 0, 0, 0, 0)).2.2.2.1 && (o_4.1.2.2.2.2.1 == (List.getD p.1 (Int.toNat i) (0, 0, 0, 0, 0, 0)).2.2.2.2.1 && o_4.1.2.2.2.2.2 == (List.getD p.1 (Int.toNat i) (0, 0, 0, 0, 0, 0)).2.2.2.2.2))))) then
                some (Sum.inr false)
              else
                feluccalaw08_PlanEnds_L0 k (now, p, head, q, w64 (i + 1))
            else
              some (Sum.inr false)
          else
            bif decide (now < (List.getD p.1 (Int.toNat i) (0, 0, 0, 0, 0, 0)).2.2.2.2.1) then
              some (Sum.inr false)
            else
              feluccalaw08_PlanEnds_L0 k (now, p, head, q, w64 (i + 1))
      else
        none
    else
      none
  else
    some (Sum.inl (now, p, head, q))
def feluccalaw08_PlanEnds (k : Nat) : (T52 × Int) → Option (Bool) := fun (p, now) =>
  (feluccalaw08_small k ()).bind fun o_1 =>
    bif o_1 then
      (feluccalaw08_Few k p).bind fun o_3 =>
        bif o_3 then
          (plan_Right k p).bind fun o_5 =>
            bif o_5 then
              (plan_Advance k (p, now)).bind fun o_7 =>
                bif !decide (o_7.2.2 = 0) then
                  bif decide (o_7.2.2 = 7) then
                    (plan_Same k (o_7.1, p)).bind fun o_10 =>
                      bif o_10 then
                        bif decide (Int.ofNat (List.length o_7.2.1) = 0) then
                          bif decide (now < p.2.2.1) then
                            some (true)
                          else
                            bif decide (2147483647 < now) then
                              some (true)
                            else
                              some (false)
                        else
                          some (false)
                      else
                        some (false)
                  else
                    some (false)
                else
                  (feluccalaw08_PlanEnds_L0 k (now, p, true, o_7.1, 0)).bind fun o_9 =>
                    match o_9 with
                    | .inl o_10 =>
                      (feluccalaw08_PlanEnds_L1 k (o_10.1, o_10.2.1, o_10.2.2.1, o_10.2.2.2, 0, 0)).bind fun o_11 =>
                        match o_11 with
                        | .inl o_12 =>
                          bif o_12.2.1 then
                            bif decide (o_12.2.2.2 = Int.ofNat (List.length o_12.2.2.1.2.1)) then
                              bif decide (o_12.2.2.1.2.2.1 = o_12.1) then
                                some (true)
                              else
                                some (false)
                            else
                              some (false)
                          else
                            some (false)
                        | .inr o_12 =>
                          some (o_12)
                    | .inr o_10 =>
                      some (o_10)
            else
              some (true)
        else
          some (true)
    else
      (feluccalaw08_Few k p).bind fun o_3 =>
        bif o_3 then
          (plan_Right k p).bind fun o_5 =>
            bif o_5 then
              (plan_Advance k (p, now)).bind fun o_7 =>
                bif !decide (o_7.2.2 = 0) then
                  some (false)
                else
                  (feluccalaw08_PlanEnds_L0 k (now, p, false, o_7.1, 0)).bind fun o_9 =>
                    match o_9 with
                    | .inl o_10 =>
                      (feluccalaw08_PlanEnds_L1 k (o_10.1, o_10.2.1, o_10.2.2.1, o_10.2.2.2, 0, 0)).bind fun o_11 =>
                        match o_11 with
                        | .inl o_12 =>
                          bif o_12.2.1 then
                            bif decide (o_12.2.2.2 = Int.ofNat (List.length o_12.2.2.1.2.1)) then
                              bif decide (o_12.2.2.1.2.2.1 = o_12.1) then
                                some (true)
                              else
                                some (false)
                            else
                              some (false)
                          else
                            some (false)
                        | .inr o_12 =>
                          some (o_12)
                    | .inr o_10 =>
                      some (o_10)
            else
              some (false)
        else
          some (false)
noncomputable def feluccalaw08_PlanEnds_X : Cx Try.prog [.one (.sc (.bool))] := ⟨fun k => ⟨[contacts_Find_e k, feluccalaw08_small_e k, feluccalaw08_Few_e k, plan_Right_e k, plan_Advance_e k, plan_Same_e k], [], []⟩, Try.f14.ntmps, Try.f14.results, [some ⟨0, [(1, .one (.sc (.int .i64))), (2, .box 52 trT52), (5, .one (.sc (.bool))), (7, .box 52 toT52), (10, .one (.sc (.int .i64)))], [(1, .one (.sc (.int .i64))), (2, .box 52 trT52), (5, .one (.sc (.bool))), (7, .box 52 toT52)], feluccalaw08_PlanEnds_L0⟩, some ⟨2, [(1, .one (.sc (.int .i64))), (2, .box 52 trT52), (5, .one (.sc (.bool))), (7, .box 52 toT52), (14, .one (.sc (.int .i64))), (15, .one (.sc (.int .i64)))], [(1, .one (.sc (.int .i64))), (5, .one (.sc (.bool))), (7, .box 52 toT52), (14, .one (.sc (.int .i64)))], feluccalaw08_PlanEnds_L1⟩]⟩
theorem feluccalaw08_PlanEnds_L1_eq (k : Nat) (x : Int × T52 × Bool × T52 × Int × Int) : feluccalaw08_PlanEnds_L1 (k + 1) x = roundF feluccalaw08_PlanEnds_X k ⟨2, [(1, .one (.sc (.int .i64))), (2, .box 52 trT52), (5, .one (.sc (.bool))), (7, .box 52 toT52), (14, .one (.sc (.int .i64))), (15, .one (.sc (.int .i64)))], [(1, .one (.sc (.int .i64))), (5, .one (.sc (.bool))), (7, .box 52 toT52), (14, .one (.sc (.int .i64)))], feluccalaw08_PlanEnds_L1⟩ 1 (lp feluccalaw08_PlanEnds_c 1) x := by kernel_rfl
theorem feluccalaw08_PlanEnds_L0_eq (k : Nat) (x : Int × T52 × Bool × T52 × Int) : feluccalaw08_PlanEnds_L0 (k + 1) x = roundF feluccalaw08_PlanEnds_X k ⟨0, [(1, .one (.sc (.int .i64))), (2, .box 52 trT52), (5, .one (.sc (.bool))), (7, .box 52 toT52), (10, .one (.sc (.int .i64)))], [(1, .one (.sc (.int .i64))), (2, .box 52 trT52), (5, .one (.sc (.bool))), (7, .box 52 toT52)], feluccalaw08_PlanEnds_L0⟩ 0 (lp feluccalaw08_PlanEnds_c 0) x := by kernel_rfl
theorem feluccalaw08_PlanEnds_eq (k : Nat) (x : T52 × Int) : feluccalaw08_PlanEnds k x = runF feluccalaw08_PlanEnds_X k feluccalaw08_PlanEnds_c [.agg lT52, .one (.sc (.int .i64))] x := by kernel_rfl
noncomputable def feluccalaw08_PlanEnds_e (k : Nat) : Ent Try.prog := ⟨14, [.agg lT52, .one (.sc (.int .i64))], [.one (.sc (.bool))], feluccalaw08_PlanEnds k, calls_of (X := feluccalaw08_PlanEnds_X) (k := k) (c := feluccalaw08_PlanEnds_c) Try.func14 (by kernel_rfl) (by kernel_rfl) (by kernel_rfl) (LoopEqs.all (show LoopEqs feluccalaw08_PlanEnds_X feluccalaw08_PlanEnds_c feluccalaw08_PlanEnds_X.L 0 from ⟨⟨fun _ => rfl, fun k x => feluccalaw08_PlanEnds_L0_eq k x⟩, ⟨⟨fun _ => rfl, fun k x => feluccalaw08_PlanEnds_L1_eq k x⟩, trivial⟩⟩)) (fun x => feluccalaw08_PlanEnds_eq k x), fun _ _ => by kernel_rfl⟩
end Go.Proofs.Ytggikacbelogcaa.Ex
