import Derived.Test.YtggikacbelogcaaF1
import Derived.Test.YtggikacbelogcaaIns
namespace Go.Proofs.Ytggikacbelogcaa.Ex
open Go
set_option linter.unusedVariables false
set_option maxHeartbeats 0
abbrev T30 := Int × Int × Int × Int × Int × Int × Int × Int
abbrev lT30 : List LK := [.sc (.int .i64), .sc (.int .i64), .sc (.int .i64), .sc (.int .i64), .sc (.int .i64), .sc (.int .i64), .sc (.int .i64), .sc (.int .i64)]
abbrev toT30 : List TL := [.sc (.int .i64), .sc (.int .i64), .sc (.int .i64), .sc (.int .i64), .sc (.int .i64), .sc (.int .i64), .sc (.int .i64), .sc (.int .i64)]
abbrev trT30 : List TL := [.sc (.int .i64), .sc (.int .i64), .sc (.int .i64), .sc (.int .i64), .sc (.int .i64), .sc (.int .i64), .sc (.int .i64), .sc (.int .i64)]
abbrev kT30 : List SK := [.int .i64, .int .i64, .int .i64, .int .i64, .int .i64, .int .i64, .int .i64, .int .i64]
/-! slices.Insert[[]felucca/api.Contact,felucca/api.Contact] (by hand) -/
def slices_Insert (_k : Nat) : List T28 → (Int × (List T28)) → Option (List T28) := insF 48
noncomputable def slices_Insert_m (k : Nat) : EntM Try.prog := ⟨55, 28, kT28, [.one (.sc (.int .i64)), .one (.row 28 kT28)], false, slices_Insert k, ins28_mut, fun _ _ => by kernel_rfl⟩
/-! felucca/contacts.Add -/
noncomputable def contacts_Add_c : Code := Try.f21.body.getD .skip
def contacts_Add (k : Nat) : ((List T28) × T28) → Option ((List T28) × Int) := fun (l, c1) =>
  (slices_Clone_api_Contact_api_Contact k l).bind fun o_1 =>
    (check_Contact k c1).bind fun o_2 =>
      bif o_2 then
        bif decide (4096 ≤ Int.ofNat (List.length o_1)) then
          some ((o_1, 3))
        else
          (contacts_of k c1.1).bind fun o_5 =>
            (ContainsFunc_of k (o_1, o_5)).bind fun o_6 =>
              bif o_6 then
                some ((o_1, 4))
              else
                (ContainsFunc_ov k (o_1, c1)).bind fun o_8 =>
                  bif o_8 then
                    some ((o_1, 5))
                  else
                    (BinarySearchFunc_C k (o_1, c1, ())).bind fun o_10 =>
                      bif o_10.2 then
                        (slices_Insert k o_1 (o_10.1, [c1])).bind fun o_12 =>
                          some ((o_12, 0))
                      else
                        (slices_Insert k o_1 (o_10.1, [c1])).bind fun o_12 =>
                          some ((o_12, 0))
      else
        some ((o_1, 1))
noncomputable def contacts_Add_X : Cx Try.prog [.one (.row 28 kT28), .one (.sc (.int .i64))] := ⟨fun k => ⟨[contacts_Compare_e k, check_Contact_e k, slices_Clone_api_Contact_api_Contact_e k, ContainsFunc_of_e k, ContainsFunc_ov_e k, contacts_of_e k, BinarySearchFunc_C_e k], [slices_Insert_m k]⟩, Try.f21.ntmps, Try.f21.results, []⟩
theorem contacts_Add_eq (k : Nat) (x : (List T28) × T28) : contacts_Add k x = runF contacts_Add_X k contacts_Add_c [.one (.row 28 kT28), .agg lT28] x := by kernel_rfl
noncomputable def contacts_Add_e (k : Nat) : Ent Try.prog := ⟨21, [.one (.row 28 kT28), .agg lT28], [.one (.row 28 kT28), .one (.sc (.int .i64))], contacts_Add k, calls_of (X := contacts_Add_X) (k := k) (c := contacts_Add_c) Try.func21 (by kernel_rfl) (by kernel_rfl) (by kernel_rfl) (LoopEqs.all (show LoopEqs contacts_Add_X contacts_Add_c contacts_Add_X.L 0 from trivial)) (fun x => contacts_Add_eq k x), fun _ _ => by kernel_rfl⟩
/-! felucca/feluccalaw06.small -/
noncomputable def feluccalaw06_small_c : Code := Try.f15.body.getD .skip
def feluccalaw06_small (k : Nat) : Unit → Option (Bool) := fun _ =>
  (contacts_Add k ([(4, 1, 2, 20, 30, 1)], 5, 1, 2, 10, 20, 3)).bind fun o_1 =>
    (contacts_Add k (o_1.1, 3, 1, 2, 29, 40, 1)).bind fun o_2 =>
      (contacts_Add k (o_1.1, 4, 1, 2, 30, 40, 1)).bind fun o_3 =>
        (contacts_Change k (o_1.1, 5, 9)).bind fun o_4 =>
          (contacts_Delete k (o_1.1, 5)).bind fun o_5 =>
            (contacts_Delete k (o_5.1, 5)).bind fun o_6 =>
              (contacts_Expire k (o_1.1, 20)).bind fun o_7 =>
                (contacts_Find k (o_4.1, 5)).bind fun o_8 =>
                  bif o_8.2 then
                    bif decide (o_1.2 = 0) then
                      (contacts_Same k (o_1.1, [(5, 1, 2, 10, 20, 3), (4, 1, 2, 20, 30, 1)])).bind fun o_11 =>
                        bif o_11 then
                          bif decide (o_2.2 = 5) then
                            bif decide (o_3.2 = 4) then
                              bif decide (o_4.2 = 0) then
                                bif decide (o_8.1.2.2.2.2.2 = 9) then
                                  bif decide (o_5.2 = 0) then
                                    (contacts_Same k (o_5.1, [(4, 1, 2, 20, 30, 1)])).bind fun o_18 =>
                                      bif o_18 then
                                        bif decide (o_6.2 = 6) then
                                          (contacts_Same k (o_7.1, o_5.1)).bind fun o_21 =>
                                            bif o_21 then
                                              (feluccaref05_Ints k (o_7.2, [5])).bind fun o_23 =>
                                                bif o_23 then
                                                  (contacts_Right k o_1.1).bind fun o_25 =>
                                                    bif o_25 then
                                                      (contacts_Right k [(4, 1, 2, 20, 30, 1), (5, 1, 2, 10, 20, 3)]).bind fun o_27 =>
                                                        bif o_27 then
                                                          some (false)
                                                        else
                                                          (contacts_Compare k ((5, 1, 2, 10, 20, 3), 4, 1, 2, 20, 30, 1)).bind fun o_29 =>
                                                            bif decide (o_29 = -1) then
                                                              some (true)
                                                            else
                                                              some (false)
                                                    else
                                                      some (false)
                                                else
                                                  some (false)
                                            else
                                              some (false)
                                        else
                                          some (false)
                                      else
                                        some (false)
                                  else
                                    some (false)
                                else
                                  some (false)
                              else
                                some (false)
                            else
                              some (false)
                          else
                            some (false)
                        else
                          some (false)
                    else
                      some (false)
                  else
                    bif decide (o_1.2 = 0) then
                      (contacts_Same k (o_1.1, [(5, 1, 2, 10, 20, 3), (4, 1, 2, 20, 30, 1)])).bind fun o_11 =>
                        bif o_11 then
                          bif decide (o_2.2 = 5) then
                            bif decide (o_3.2 = 4) then
                              bif decide (o_4.2 = 0) then
                                some (false)
                              else
                                some (false)
                            else
                              some (false)
                          else
                            some (false)
                        else
                          some (false)
                    else
                      some (false)
noncomputable def feluccalaw06_small_X : Cx Try.prog [.one (.sc (.bool))] := ⟨fun k => ⟨[contacts_Right_e k, contacts_Same_e k, contacts_Add_e k, contacts_Delete_e k, contacts_Change_e k, contacts_Expire_e k, feluccaref05_Ints_e k, contacts_Find_e k, contacts_Compare_e k], []⟩, Try.f15.ntmps, Try.f15.results, []⟩
theorem feluccalaw06_small_eq (k : Nat) (x : Unit) : feluccalaw06_small k x = runF feluccalaw06_small_X k feluccalaw06_small_c [] x := by kernel_rfl
noncomputable def feluccalaw06_small_e (k : Nat) : Ent Try.prog := ⟨15, [], [.one (.sc (.bool))], feluccalaw06_small k, calls_of (X := feluccalaw06_small_X) (k := k) (c := feluccalaw06_small_c) Try.func15 (by kernel_rfl) (by kernel_rfl) (by kernel_rfl) (LoopEqs.all (show LoopEqs feluccalaw06_small_X feluccalaw06_small_c feluccalaw06_small_X.L 0 from trivial)) (fun x => feluccalaw06_small_eq k x), fun _ _ => by kernel_rfl⟩
/-! felucca/feluccalaw06.ContactsOrder -/
noncomputable def feluccalaw06_ContactsOrder_c : Code := Try.f5.body.getD .skip
def feluccalaw06_ContactsOrder (k : Nat) : (T28 × T28 × T28) → Option (Bool) := fun (a, b, c2) =>
  (feluccalaw06_small k ()).bind fun o_1 =>
    bif o_1 then
      (contacts_Compare k (a, b)).bind fun o_3 =>
        (contacts_Compare k (b, c2)).bind fun o_4 =>
          (contacts_Compare k (a, c2)).bind fun o_5 =>
            (contacts_Compare k (b, a)).bind fun o_6 =>
              bif decide (o_3 = w64 (0 - o_6)) then
                bif decide (o_3 ≤ 0) then
                  bif decide (o_4 ≤ 0) then
                    bif decide (0 < o_5) then
                      some (false)
                    else
                      bif !decide (o_3 = 0) then
                        (contacts_Compare k (a, a)).bind fun o_12 =>
                          bif decide (o_12 = 0) then
                            bif decide (-1 ≤ o_3) then
                              bif decide (o_3 ≤ 1) then
                                some (true)
                              else
                                some (false)
                            else
                              some (false)
                          else
                            some (false)
                      else
                        bif decide (o_4 = o_5) then
                          (contacts_Compare k (a, a)).bind fun o_13 =>
                            bif decide (o_13 = 0) then
                              bif decide (-1 ≤ o_3) then
                                bif decide (o_3 ≤ 1) then
                                  some (true)
                                else
                                  some (false)
                              else
                                some (false)
                            else
                              some (false)
                        else
                          some (false)
                  else
                    bif !decide (o_3 = 0) then
                      (contacts_Compare k (a, a)).bind fun o_11 =>
                        bif decide (o_11 = 0) then
                          bif decide (-1 ≤ o_3) then
                            bif decide (o_3 ≤ 1) then
                              some (true)
                            else
                              some (false)
                          else
                            some (false)
                        else
                          some (false)
                    else
                      bif decide (o_4 = o_5) then
                        (contacts_Compare k (a, a)).bind fun o_12 =>
                          bif decide (o_12 = 0) then
                            bif decide (-1 ≤ o_3) then
                              bif decide (o_3 ≤ 1) then
                                some (true)
                              else
                                some (false)
                            else
                              some (false)
                          else
                            some (false)
                      else
                        some (false)
                else
                  bif !decide (o_3 = 0) then
                    (contacts_Compare k (a, a)).bind fun o_10 =>
                      bif decide (o_10 = 0) then
                        bif decide (-1 ≤ o_3) then
                          bif decide (o_3 ≤ 1) then
                            some (true)
                          else
                            some (false)
                        else
                          some (false)
                      else
                        some (false)
                  else
                    bif decide (o_4 = o_5) then
                      (contacts_Compare k (a, a)).bind fun o_11 =>
                        bif decide (o_11 = 0) then
                          bif decide (-1 ≤ o_3) then
                            bif decide (o_3 ≤ 1) then
                              some (true)
                            else
                              some (false)
                          else
                            some (false)
                        else
                          some (false)
                    else
                      some (false)
              else
                some (false)
    else
      (contacts_Compare k (a, b)).bind fun o_3 =>
        (contacts_Compare k (b, c2)).bind fun o_4 =>
          (contacts_Compare k (a, c2)).bind fun o_5 =>
            some (false)
noncomputable def feluccalaw06_ContactsOrder_X : Cx Try.prog [.one (.sc (.bool))] := ⟨fun k => ⟨[feluccalaw06_small_e k, contacts_Compare_e k], []⟩, Try.f5.ntmps, Try.f5.results, []⟩
theorem feluccalaw06_ContactsOrder_eq (k : Nat) (x : T28 × T28 × T28) : feluccalaw06_ContactsOrder k x = runF feluccalaw06_ContactsOrder_X k feluccalaw06_ContactsOrder_c [.agg lT28, .agg lT28, .agg lT28] x := by kernel_rfl
noncomputable def feluccalaw06_ContactsOrder_e (k : Nat) : Ent Try.prog := ⟨5, [.agg lT28, .agg lT28, .agg lT28], [.one (.sc (.bool))], feluccalaw06_ContactsOrder k, calls_of (X := feluccalaw06_ContactsOrder_X) (k := k) (c := feluccalaw06_ContactsOrder_c) Try.func5 (by kernel_rfl) (by kernel_rfl) (by kernel_rfl) (LoopEqs.all (show LoopEqs feluccalaw06_ContactsOrder_X feluccalaw06_ContactsOrder_c feluccalaw06_ContactsOrder_X.L 0 from trivial)) (fun x => feluccalaw06_ContactsOrder_eq k x), fun _ _ => by kernel_rfl⟩
/-! felucca/feluccalaw06.ContactsFinds -/
noncomputable def feluccalaw06_ContactsFinds_c : Code := Try.f8.body.getD .skip
def feluccalaw06_ContactsFinds_L0 : Nat → ((List T28) × Int × Bool × Bool × Int) → Option (((List T28) × Int × Bool × Bool) ⊕ (Bool))
  | 0, _ => none
  | k + 1, (l, id, head, had, i) =>
  bif decide (i < Int.ofNat (List.length l)) then
    bif decide (0 ≤ i) then
      bif decide (i < Int.ofNat (List.length l)) then
        (contacts_Find k (l, (List.getD l (Int.toNat i) (0, 0, 0, 0, 0, 0)).1)).bind fun o_4 =>
          bif o_4.2 then
            bif decide (0 ≤ i) then
              bif decide (i < Int.ofNat (List.length l)) then
                bif !(o_4.1.1 == (List.getD l (Int.toNat i) (0, 0, 0, 0, 0, 0)).1 && (o_4.1.2.1 == (List.getD l (Int.toNat i) (0, 0, 0, 0, 0, 0)).2.1 && (o_4.1.2.2.1 == (List.getD l (Int.toNat i) (0, 0, 0, 0, 0, 0)).2.2.1 && (o_4.1.2.2.2.1 == (List.getD l (Int.toNat i) (0, 0, 0, 0, 0, 0)).2.2.2.1 && (o_4.1.2.2.2.2.1 == (List.getD l (Int.toNat i) (0, 0, 0, 0, 0, 0)).2.2.2.2.1 && o_4.1.2.2.2.2.2 == (List.getD l (Int.toNat i) (0, 0, 0, 0, 0, 0)).2.2.2.2.2))))) then
                  some (Sum.inr false)
                else
                  bif had then
                    feluccalaw06_ContactsFinds_L0 k (l, id, head, true, w64 (i + 1))
                  else
                    bif decide (0 ≤ i) then
                      bif decide (i < Int.ofNat (List.length l)) then
                        bif decide ((List.getD l (Int.toNat i) (0, 0, 0, 0, 0, 0)).1 = id) then
                          feluccalaw06_ContactsFinds_L0 k (l, id, head, true, w64 (i + 1))
                        else
                          feluccalaw06_ContactsFinds_L0 k (l, id, head, false, w64 (i + 1))
                      else
                        none
                    else
                      none
              else
                none
            else
              none
          else
            some (Sum.inr false)
      else
        none
    else
      none
  else
    some (Sum.inl (l, id, head, had))
def feluccalaw06_ContactsFinds (k : Nat) : ((List T28) × Int) → Option (Bool) := fun (l, id) =>
  (feluccalaw06_small k ()).bind fun o_1 =>
    bif o_1 then
      bif decide (50 < Int.ofNat (List.length l)) then
        some (true)
      else
        (contacts_Right k l).bind fun o_4 =>
          bif o_4 then
            (feluccalaw06_ContactsFinds_L0 k (l, id, true, false, 0)).bind fun o_6 =>
              match o_6 with
              | .inl o_7 =>
                (contacts_Find k (o_7.1, o_7.2.1)).bind fun o_8 =>
                  bif o_8.2 then
                    bif o_7.2.2.1 then
                      bif o_7.2.2.2 then
                        bif decide (o_8.1.1 = o_7.2.1) then
                          some (true)
                        else
                          some (false)
                      else
                        some (false)
                    else
                      some (false)
                  else
                    bif o_7.2.2.1 then
                      bif o_7.2.2.2 then
                        some (false)
                      else
                        bif o_8.1.1 == 0 && (o_8.1.2.1 == 0 && (o_8.1.2.2.1 == 0 && (o_8.1.2.2.2.1 == 0 && (o_8.1.2.2.2.2.1 == 0 && o_8.1.2.2.2.2.2 == 0)))) then
                          some (true)
                        else
                          some (false)
                    else
                      some (false)
              | .inr o_7 =>
                some (o_7)
          else
            some (true)
    else
      bif decide (50 < Int.ofNat (List.length l)) then
        some (false)
      else
        (contacts_Right k l).bind fun o_4 =>
          bif o_4 then
            (feluccalaw06_ContactsFinds_L0 k (l, id, false, false, 0)).bind fun o_6 =>
              match o_6 with
              | .inl o_7 =>
                (contacts_Find k (o_7.1, o_7.2.1)).bind fun o_8 =>
                  bif o_8.2 then
                    bif o_7.2.2.1 then
                      bif o_7.2.2.2 then
                        bif decide (o_8.1.1 = o_7.2.1) then
                          some (true)
                        else
                          some (false)
                      else
                        some (false)
                    else
                      some (false)
                  else
                    bif o_7.2.2.1 then
                      bif o_7.2.2.2 then
                        some (false)
                      else
                        bif o_8.1.1 == 0 && (o_8.1.2.1 == 0 && (o_8.1.2.2.1 == 0 && (o_8.1.2.2.2.1 == 0 && (o_8.1.2.2.2.2.1 == 0 && o_8.1.2.2.2.2.2 == 0)))) then
                          some (true)
                        else
                          some (false)
                    else
                      some (false)
              | .inr o_7 =>
                some (o_7)
          else
            some (false)
noncomputable def feluccalaw06_ContactsFinds_X : Cx Try.prog [.one (.sc (.bool))] := ⟨fun k => ⟨[feluccalaw06_small_e k, contacts_Right_e k, contacts_Find_e k], []⟩, Try.f8.ntmps, Try.f8.results, [some ⟨0, [(0, .one (.ro kT28)), (1, .one (.sc (.int .i64))), (5, .one (.sc (.bool))), (6, .one (.sc (.bool))), (7, .one (.sc (.int .i64)))], [(0, .one (.ro kT28)), (1, .one (.sc (.int .i64))), (5, .one (.sc (.bool))), (6, .one (.sc (.bool)))], feluccalaw06_ContactsFinds_L0⟩]⟩
theorem feluccalaw06_ContactsFinds_L0_eq (k : Nat) (x : (List T28) × Int × Bool × Bool × Int) : feluccalaw06_ContactsFinds_L0 (k + 1) x = roundF feluccalaw06_ContactsFinds_X k ⟨0, [(0, .one (.ro kT28)), (1, .one (.sc (.int .i64))), (5, .one (.sc (.bool))), (6, .one (.sc (.bool))), (7, .one (.sc (.int .i64)))], [(0, .one (.ro kT28)), (1, .one (.sc (.int .i64))), (5, .one (.sc (.bool))), (6, .one (.sc (.bool)))], feluccalaw06_ContactsFinds_L0⟩ 0 (lp feluccalaw06_ContactsFinds_c 0) x := by kernel_rfl
theorem feluccalaw06_ContactsFinds_eq (k : Nat) (x : (List T28) × Int) : feluccalaw06_ContactsFinds k x = runF feluccalaw06_ContactsFinds_X k feluccalaw06_ContactsFinds_c [.one (.row 28 kT28), .one (.sc (.int .i64))] x := by kernel_rfl
noncomputable def feluccalaw06_ContactsFinds_e (k : Nat) : Ent Try.prog := ⟨8, [.one (.row 28 kT28), .one (.sc (.int .i64))], [.one (.sc (.bool))], feluccalaw06_ContactsFinds k, calls_of (X := feluccalaw06_ContactsFinds_X) (k := k) (c := feluccalaw06_ContactsFinds_c) Try.func8 (by kernel_rfl) (by kernel_rfl) (by kernel_rfl) (LoopEqs.all (show LoopEqs feluccalaw06_ContactsFinds_X feluccalaw06_ContactsFinds_c feluccalaw06_ContactsFinds_X.L 0 from ⟨⟨fun _ => rfl, fun k x => feluccalaw06_ContactsFinds_L0_eq k x⟩, trivial⟩)) (fun x => feluccalaw06_ContactsFinds_eq k x), fun _ _ => by kernel_rfl⟩
/-! felucca/feluccalaw06.ContactsExpires -/
noncomputable def feluccalaw06_ContactsExpires_c : Code := Try.f6.body.getD .skip
def feluccalaw06_ContactsExpires_L1 : Nat → ((List T28) × Int × Bool × (List Int) × (List T28) × (List Int) × (List T28) × (List Int) × Int × Int) → Option (((List T28) × Bool × (List Int) × (List T28) × (List Int) × (List T28) × (List Int) × Int) ⊕ (Bool))
  | 0, _ => none
  | k + 1, (t, A, t7, t9, t10, t11, t12, t13, t14, t16) =>
  bif decide (t16 < Int.ofNat (List.length t13)) then
    bif decide (0 ≤ t16) then
      bif decide (t16 < Int.ofNat (List.length t13)) then
        (contacts_Find k (t, List.getD t13 (Int.toNat t16) 0)).bind fun o_4 =>
          bif o_4.2 then
            bif decide (A < o_4.1.2.2.2.2.1) then
              some (Sum.inr false)
            else
              bif decide (0 < t16) then
                bif decide (0 ≤ t16) then
                  bif decide (t16 < Int.ofNat (List.length t13)) then
                    bif decide (0 ≤ w64 (t16 - 1)) then
                      bif decide (w64 (t16 - 1) < Int.ofNat (List.length t13)) then
                        bif decide (List.getD t13 (Int.toNat t16) 0 ≤ List.getD t13 (Int.toNat (w64 (t16 - 1))) 0) then
                          some (Sum.inr false)
                        else
                          feluccalaw06_ContactsExpires_L1 k (t, A, t7, t9, t10, t11, t12, t13, t14, w64 (t16 + 1))
                      else
                        none
                    else
                      none
                  else
                    none
                else
                  none
              else
                feluccalaw06_ContactsExpires_L1 k (t, A, t7, t9, t10, t11, t12, t13, t14, w64 (t16 + 1))
          else
            some (Sum.inr false)
      else
        none
    else
      none
  else
    some (Sum.inl (t, t7, t9, t10, t11, t12, t13, t14))
def feluccalaw06_ContactsExpires_L0 : Nat → ((List T28) × Int × Bool × (List Int) × (List T28) × (List Int) × (List T28) × (List Int) × Int × Int) → Option (((List T28) × Int × Bool × (List Int) × (List T28) × (List Int) × (List T28) × (List Int) × Int) ⊕ (Bool))
  | 0, _ => none
  | k + 1, (t, A, t7, t9, t10, t11, t12, t13, t14, t15) =>
  bif decide (t15 < Int.ofNat (List.length t)) then
    bif decide (0 ≤ t15) then
      bif decide (t15 < Int.ofNat (List.length t)) then
        bif decide ((List.getD t (Int.toNat t15) (0, 0, 0, 0, 0, 0)).2.2.2.2.1 ≤ A) then
          feluccalaw06_ContactsExpires_L0 k (t, A, t7, t9, t10, t11, t12, t13, w64 (t14 + 1), w64 (t15 + 1))
        else
          feluccalaw06_ContactsExpires_L0 k (t, A, t7, t9, t10, t11, t12, t13, t14, w64 (t15 + 1))
      else
        none
    else
      none
  else
    some (Sum.inl (t, A, t7, t9, t10, t11, t12, t13, t14))
def feluccalaw06_ContactsExpires (k : Nat) : ((List T28) × Int × Int) → Option (Bool) := fun (t, o, A) =>
  (feluccalaw06_small k ()).bind fun o_1 =>
    bif o_1 then
      bif decide (50 < Int.ofNat (List.length t)) then
        some (true)
      else
        (contacts_Right k t).bind fun o_4 =>
          bif o_4 then
            bif decide (A < o) then
              some (true)
            else
              (contacts_Expire k (t, o)).bind fun o_7 =>
                (contacts_Expire k (o_7.1, A)).bind fun o_8 =>
                  (contacts_Expire k (t, A)).bind fun o_9 =>
                    (feluccalaw06_ContactsExpires_L0 k (t, A, true, o_7.2, o_8.1, o_8.2, o_9.1, o_9.2, 0, 0)).bind fun o_10 =>
                      match o_10 with
                      | .inl o_11 =>
                        (feluccalaw06_ContactsExpires_L1 k (o_11.1, o_11.2.1, o_11.2.2.1, o_11.2.2.2.1, o_11.2.2.2.2.1, o_11.2.2.2.2.2.1, o_11.2.2.2.2.2.2.1, o_11.2.2.2.2.2.2.2.1, o_11.2.2.2.2.2.2.2.2, 0)).bind fun o_12 =>
                          match o_12 with
                          | .inl o_13 =>
                            bif o_13.2.1 then
                              (contacts_Same k (o_13.2.2.2.1, o_13.2.2.2.2.2.1)).bind fun o_15 =>
                                bif o_15 then
                                  bif decide (w64 (Int.ofNat (List.length o_13.2.2.1) + Int.ofNat (List.length o_13.2.2.2.2.1)) = Int.ofNat (List.length o_13.2.2.2.2.2.2.1)) then
                                    bif decide (Int.ofNat (List.length o_13.2.2.2.2.2.2.1) = o_13.2.2.2.2.2.2.2) then
                                      bif decide (Int.ofNat (List.length o_13.2.2.2.2.2.1) = w64 (Int.ofNat (List.length o_13.1) - o_13.2.2.2.2.2.2.2)) then
                                        some (true)
                                      else
                                        some (false)
                                    else
                                      some (false)
                                  else
                                    some (false)
                                else
                                  some (false)
                            else
                              some (false)
                          | .inr o_13 =>
                            some (o_13)
                      | .inr o_11 =>
                        some (o_11)
          else
            some (true)
    else
      bif decide (50 < Int.ofNat (List.length t)) then
        some (false)
      else
        (contacts_Right k t).bind fun o_4 =>
          bif o_4 then
            bif decide (A < o) then
              some (false)
            else
              (contacts_Expire k (t, o)).bind fun o_7 =>
                (contacts_Expire k (o_7.1, A)).bind fun o_8 =>
                  (contacts_Expire k (t, A)).bind fun o_9 =>
                    (feluccalaw06_ContactsExpires_L0 k (t, A, false, o_7.2, o_8.1, o_8.2, o_9.1, o_9.2, 0, 0)).bind fun o_10 =>
                      match o_10 with
                      | .inl o_11 =>
                        (feluccalaw06_ContactsExpires_L1 k (o_11.1, o_11.2.1, o_11.2.2.1, o_11.2.2.2.1, o_11.2.2.2.2.1, o_11.2.2.2.2.2.1, o_11.2.2.2.2.2.2.1, o_11.2.2.2.2.2.2.2.1, o_11.2.2.2.2.2.2.2.2, 0)).bind fun o_12 =>
                          match o_12 with
                          | .inl o_13 =>
                            bif o_13.2.1 then
                              (contacts_Same k (o_13.2.2.2.1, o_13.2.2.2.2.2.1)).bind fun o_15 =>
                                bif o_15 then
                                  bif decide (w64 (Int.ofNat (List.length o_13.2.2.1) + Int.ofNat (List.length o_13.2.2.2.2.1)) = Int.ofNat (List.length o_13.2.2.2.2.2.2.1)) then
                                    bif decide (Int.ofNat (List.length o_13.2.2.2.2.2.2.1) = o_13.2.2.2.2.2.2.2) then
                                      bif decide (Int.ofNat (List.length o_13.2.2.2.2.2.1) = w64 (Int.ofNat (List.length o_13.1) - o_13.2.2.2.2.2.2.2)) then
                                        some (true)
                                      else
                                        some (false)
                                    else
                                      some (false)
                                  else
                                    some (false)
                                else
                                  some (false)
                            else
                              some (false)
                          | .inr o_13 =>
                            some (o_13)
                      | .inr o_11 =>
                        some (o_11)
          else
            some (false)
noncomputable def feluccalaw06_ContactsExpires_X : Cx Try.prog [.one (.sc (.bool))] := ⟨fun k => ⟨[feluccalaw06_small_e k, contacts_Right_e k, contacts_Same_e k, contacts_Expire_e k, contacts_Find_e k], []⟩, Try.f6.ntmps, Try.f6.results, [some ⟨0, [(0, .one (.ro kT28)), (2, .one (.sc (.int .i64))), (7, .one (.sc (.bool))), (9, .one (.own 3 [.int .i64])), (10, .one (.own 28 kT28)), (11, .one (.own 3 [.int .i64])), (12, .one (.own 28 kT28)), (13, .one (.own 3 [.int .i64])), (14, .one (.sc (.int .i64))), (15, .one (.sc (.int .i64)))], [(0, .one (.ro kT28)), (2, .one (.sc (.int .i64))), (7, .one (.sc (.bool))), (9, .one (.own 3 [.int .i64])), (10, .one (.own 28 kT28)), (11, .one (.own 3 [.int .i64])), (12, .one (.own 28 kT28)), (13, .one (.own 3 [.int .i64])), (14, .one (.sc (.int .i64)))], feluccalaw06_ContactsExpires_L0⟩, some ⟨2, [(0, .one (.ro kT28)), (2, .one (.sc (.int .i64))), (7, .one (.sc (.bool))), (9, .one (.own 3 [.int .i64])), (10, .one (.own 28 kT28)), (11, .one (.own 3 [.int .i64])), (12, .one (.own 28 kT28)), (13, .one (.own 3 [.int .i64])), (14, .one (.sc (.int .i64))), (16, .one (.sc (.int .i64)))], [(0, .one (.ro kT28)), (7, .one (.sc (.bool))), (9, .one (.own 3 [.int .i64])), (10, .one (.own 28 kT28)), (11, .one (.own 3 [.int .i64])), (12, .one (.own 28 kT28)), (13, .one (.own 3 [.int .i64])), (14, .one (.sc (.int .i64)))], feluccalaw06_ContactsExpires_L1⟩]⟩
theorem feluccalaw06_ContactsExpires_L1_eq (k : Nat) (x : (List T28) × Int × Bool × (List Int) × (List T28) × (List Int) × (List T28) × (List Int) × Int × Int) : feluccalaw06_ContactsExpires_L1 (k + 1) x = roundF feluccalaw06_ContactsExpires_X k ⟨2, [(0, .one (.ro kT28)), (2, .one (.sc (.int .i64))), (7, .one (.sc (.bool))), (9, .one (.own 3 [.int .i64])), (10, .one (.own 28 kT28)), (11, .one (.own 3 [.int .i64])), (12, .one (.own 28 kT28)), (13, .one (.own 3 [.int .i64])), (14, .one (.sc (.int .i64))), (16, .one (.sc (.int .i64)))], [(0, .one (.ro kT28)), (7, .one (.sc (.bool))), (9, .one (.own 3 [.int .i64])), (10, .one (.own 28 kT28)), (11, .one (.own 3 [.int .i64])), (12, .one (.own 28 kT28)), (13, .one (.own 3 [.int .i64])), (14, .one (.sc (.int .i64)))], feluccalaw06_ContactsExpires_L1⟩ 1 (lp feluccalaw06_ContactsExpires_c 1) x := by kernel_rfl
theorem feluccalaw06_ContactsExpires_L0_eq (k : Nat) (x : (List T28) × Int × Bool × (List Int) × (List T28) × (List Int) × (List T28) × (List Int) × Int × Int) : feluccalaw06_ContactsExpires_L0 (k + 1) x = roundF feluccalaw06_ContactsExpires_X k ⟨0, [(0, .one (.ro kT28)), (2, .one (.sc (.int .i64))), (7, .one (.sc (.bool))), (9, .one (.own 3 [.int .i64])), (10, .one (.own 28 kT28)), (11, .one (.own 3 [.int .i64])), (12, .one (.own 28 kT28)), (13, .one (.own 3 [.int .i64])), (14, .one (.sc (.int .i64))), (15, .one (.sc (.int .i64)))], [(0, .one (.ro kT28)), (2, .one (.sc (.int .i64))), (7, .one (.sc (.bool))), (9, .one (.own 3 [.int .i64])), (10, .one (.own 28 kT28)), (11, .one (.own 3 [.int .i64])), (12, .one (.own 28 kT28)), (13, .one (.own 3 [.int .i64])), (14, .one (.sc (.int .i64)))], feluccalaw06_ContactsExpires_L0⟩ 0 (lp feluccalaw06_ContactsExpires_c 0) x := by kernel_rfl
theorem feluccalaw06_ContactsExpires_eq (k : Nat) (x : (List T28) × Int × Int) : feluccalaw06_ContactsExpires k x = runF feluccalaw06_ContactsExpires_X k feluccalaw06_ContactsExpires_c [.one (.row 28 kT28), .one (.sc (.int .i64)), .one (.sc (.int .i64))] x := by kernel_rfl
noncomputable def feluccalaw06_ContactsExpires_e (k : Nat) : Ent Try.prog := ⟨6, [.one (.row 28 kT28), .one (.sc (.int .i64)), .one (.sc (.int .i64))], [.one (.sc (.bool))], feluccalaw06_ContactsExpires k, calls_of (X := feluccalaw06_ContactsExpires_X) (k := k) (c := feluccalaw06_ContactsExpires_c) Try.func6 (by kernel_rfl) (by kernel_rfl) (by kernel_rfl) (LoopEqs.all (show LoopEqs feluccalaw06_ContactsExpires_X feluccalaw06_ContactsExpires_c feluccalaw06_ContactsExpires_X.L 0 from ⟨⟨fun _ => rfl, fun k x => feluccalaw06_ContactsExpires_L0_eq k x⟩, ⟨⟨fun _ => rfl, fun k x => feluccalaw06_ContactsExpires_L1_eq k x⟩, trivial⟩⟩)) (fun x => feluccalaw06_ContactsExpires_eq k x), fun _ _ => by kernel_rfl⟩
/-! felucca/feluccalaw06.ContactsTwice -/
noncomputable def feluccalaw06_ContactsTwice_c : Code := Try.f7.body.getD .skip
def feluccalaw06_ContactsTwice (k : Nat) : ((List T28) × T28) → Option (Bool) := fun (l, c1) =>
  (feluccalaw06_small k ()).bind fun o_1 =>
    bif o_1 then
      bif decide (50 < Int.ofNat (List.length l)) then
        some (true)
      else
        (contacts_Right k l).bind fun o_4 =>
          bif o_4 then
            (contacts_Add k (l, c1)).bind fun o_6 =>
              bif !decide (o_6.2 = 0) then
                (contacts_Same k (o_6.1, l)).bind fun o_8 =>
                  bif o_8 then
                    some (true)
                  else
                    some (false)
              else
                (contacts_Add k (o_6.1, c1)).bind fun o_8 =>
                  (contacts_Delete k (o_6.1, c1.1)).bind fun o_9 =>
                    (contacts_Add k (o_9.1, c1)).bind fun o_10 =>
                      bif decide (o_8.2 = 4) then
                        bif decide (o_9.2 = 0) then
                          (contacts_Same k (o_9.1, l)).bind fun o_13 =>
                            bif o_13 then
                              bif decide (o_10.2 = 0) then
                                (contacts_Same k (o_10.1, o_6.1)).bind fun o_16 =>
                                  bif o_16 then
                                    some (true)
                                  else
                                    some (false)
                              else
                                some (false)
                            else
                              some (false)
                        else
                          some (false)
                      else
                        some (false)
          else
            some (true)
    else
      bif decide (50 < Int.ofNat (List.length l)) then
        some (false)
      else
        (contacts_Right k l).bind fun o_4 =>
          bif o_4 then
            (contacts_Add k (l, c1)).bind fun o_6 =>
              bif !decide (o_6.2 = 0) then
                some (false)
              else
                (contacts_Add k (o_6.1, c1)).bind fun o_8 =>
                  (contacts_Delete k (o_6.1, c1.1)).bind fun o_9 =>
                    (contacts_Add k (o_9.1, c1)).bind fun o_10 =>
                      some (false)
          else
            some (false)
noncomputable def feluccalaw06_ContactsTwice_X : Cx Try.prog [.one (.sc (.bool))] := ⟨fun k => ⟨[feluccalaw06_small_e k, contacts_Right_e k, contacts_Same_e k, contacts_Add_e k, contacts_Delete_e k], []⟩, Try.f7.ntmps, Try.f7.results, []⟩
theorem feluccalaw06_ContactsTwice_eq (k : Nat) (x : (List T28) × T28) : feluccalaw06_ContactsTwice k x = runF feluccalaw06_ContactsTwice_X k feluccalaw06_ContactsTwice_c [.one (.row 28 kT28), .agg lT28] x := by kernel_rfl
noncomputable def feluccalaw06_ContactsTwice_e (k : Nat) : Ent Try.prog := ⟨7, [.one (.row 28 kT28), .agg lT28], [.one (.sc (.bool))], feluccalaw06_ContactsTwice k, calls_of (X := feluccalaw06_ContactsTwice_X) (k := k) (c := feluccalaw06_ContactsTwice_c) Try.func7 (by kernel_rfl) (by kernel_rfl) (by kernel_rfl) (LoopEqs.all (show LoopEqs feluccalaw06_ContactsTwice_X feluccalaw06_ContactsTwice_c feluccalaw06_ContactsTwice_X.L 0 from trivial)) (fun x => feluccalaw06_ContactsTwice_eq k x), fun _ _ => by kernel_rfl⟩
/-! felucca/feluccalaw06.ContactsRight -/
noncomputable def feluccalaw06_ContactsRight_c : Code := Try.f4.body.getD .skip
def feluccalaw06_ContactsRight_L1 : Nat → ((List T28) × (List T30) × Bool × Int × Int × (List T28) × Int) → Option (((List T30) × Bool × Int × (List T28)) ⊕ (Bool))
  | 0, _ => none
  | k + 1, (t, o, a, y6, t8, t9, t18) =>
  bif decide (t18 < Int.ofNat (List.length t)) then
    bif decide (0 ≤ t18) then
      bif decide (t18 < Int.ofNat (List.length t)) then
        bif decide ((List.getD t (Int.toNat t18) (0, 0, 0, 0, 0, 0)).1 = t8) then
          feluccalaw06_ContactsRight_L1 k (t, o, a, y6, t8, t9, w64 (t18 + 1))
        else
          bif decide (0 ≤ t18) then
            bif decide (t18 < Int.ofNat (List.length t)) then
              (contacts_Find k (t9, (List.getD t (Int.toNat t18) (0, 0, 0, 0, 0, 0)).1)).bind fun o_7 =>
                bif o_7.2 then
                  bif decide (0 ≤ t18) then
                    bif decide (t18 < Int.ofNat (List.length t)) then
                      bif !(o_7.1.1 == (List.getD t (Int.toNat t18) (0, 0, 0, 0, 0, 0)).1 && (o_7.1.2.1 == (List.getD t (Int.toNat t18) (0, 0, 0, 0, 0, 0)).2.1 && (o_7.1.2.2.1 == (List.getD t (Int.toNat t18) (0, 0, 0, 0, 0, 0)).2.2.1 && (o_7.1.2.2.2.1 == (List.getD t (Int.toNat t18) (0, 0, 0, 0, 0, 0)).2.2.2.1 && (o_7.1.2.2.2.2.1 == (List.getD t (Int.toNat t18) (0, 0, 0, 0, 0, 0)).2.2.2.2.1 && o_7.1.2.2.2.2.2 == (List.getD t (Int.toNat t18) (0, 0, 0, 0, 0, 0)).2.2.2.2.2))))) then
                        some (Sum.inr false)
                      else
                        feluccalaw06_ContactsRight_L1 k (t, o, a, y6, t8, t9, w64 (t18 + 1))
                    else
                      none
                  else
                    none
                else
                  some (Sum.inr false)
            else
              none
          else
            none
      else
        none
    else
      none
  else
    some (Sum.inl (o, a, y6, t9))
def feluccalaw06_ContactsRight_L0 : Nat → ((List T28) × (List T30) × Bool × Int) → Option ((Bool) ⊕ (Bool))
  | 0, _ => none
  | k + 1, (t, o, a, y6) =>
  bif decide (y6 < Int.ofNat (List.length o)) then
    bif decide (0 ≤ y6) then
      bif decide (y6 < Int.ofNat (List.length o)) then
        bif decide ((List.getD o (Int.toNat y6) (0, 0, 0, 0, 0, 0, 0, 0)).1 = 1) then
          (contacts_Add k (t, (List.getD o (Int.toNat y6) (0, 0, 0, 0, 0, 0, 0, 0)).2.1, (List.getD o (Int.toNat y6) (0, 0, 0, 0, 0, 0, 0, 0)).2.2.1, (List.getD o (Int.toNat y6) (0, 0, 0, 0, 0, 0, 0, 0)).2.2.2.1, (List.getD o (Int.toNat y6) (0, 0, 0, 0, 0, 0, 0, 0)).2.2.2.2.1, (List.getD o (Int.toNat y6) (0, 0, 0, 0, 0, 0, 0, 0)).2.2.2.2.2.1, (List.getD o (Int.toNat y6) (0, 0, 0, 0, 0, 0, 0, 0)).2.2.2.2.2.2.1)).bind fun o_5 =>
            (contacts_Find k (t, (List.getD o (Int.toNat y6) (0, 0, 0, 0, 0, 0, 0, 0)).2.1)).bind fun o_6 =>
              bif o_6.2 then
                (contacts_Find k (o_5.1, (List.getD o (Int.toNat y6) (0, 0, 0, 0, 0, 0, 0, 0)).2.1)).bind fun o_8 =>
                  bif o_8.2 then
                    (contacts_Right k o_5.1).bind fun o_10 =>
                      bif o_10 then
                        bif !decide (o_5.2 = 0) then
                          (contacts_Same k (o_5.1, t)).bind fun o_13 =>
                            bif o_13 then
                              bif decide (o_5.2 = 0) then
                                bif decide ((List.getD o (Int.toNat y6) (0, 0, 0, 0, 0, 0, 0, 0)).1 = 1) then
                                  some (Sum.inr false)
                                else
                                  bif decide ((List.getD o (Int.toNat y6) (0, 0, 0, 0, 0, 0, 0, 0)).1 = 2) then
                                    some (Sum.inr false)
                                  else
                                    bif decide ((List.getD o (Int.toNat y6) (0, 0, 0, 0, 0, 0, 0, 0)).1 = 3) then
                                      bif !(o_8.1.1 == o_6.1.1 && (o_8.1.2.1 == o_6.1.2.1 && (o_8.1.2.2.1 == o_6.1.2.2.1 && (o_8.1.2.2.2.1 == o_6.1.2.2.2.1 && (o_8.1.2.2.2.2.1 == o_6.1.2.2.2.2.1 && o_8.1.2.2.2.2.2 == (List.getD o (Int.toNat y6) (0, 0, 0, 0, 0, 0, 0, 0)).2.2.2.2.2.2.1))))) then
                                        some (Sum.inr false)
                                      else
                                        bif !decide (Int.ofNat (List.length o_5.1) = Int.ofNat (List.length t)) then
                                          some (Sum.inr false)
                                        else
                                          (feluccalaw06_ContactsRight_L1 k (t, o, a, y6, (List.getD o (Int.toNat y6) (0, 0, 0, 0, 0, 0, 0, 0)).2.1, o_5.1, 0)).bind fun o_21 =>
                                            match o_21 with
                                            | .inl o_22 =>
                                              feluccalaw06_ContactsRight_L0 k (o_22.2.2.2, o_22.1, o_22.2.1, w64 (o_22.2.2.1 + 1))
                                            | .inr o_22 =>
                                              some (Sum.inr o_22)
                                    else
                                      (feluccalaw06_ContactsRight_L1 k (t, o, a, y6, (List.getD o (Int.toNat y6) (0, 0, 0, 0, 0, 0, 0, 0)).2.1, o_5.1, 0)).bind fun o_19 =>
                                        match o_19 with
                                        | .inl o_20 =>
                                          feluccalaw06_ContactsRight_L0 k (o_20.2.2.2, o_20.1, o_20.2.1, w64 (o_20.2.2.1 + 1))
                                        | .inr o_20 =>
                                          some (Sum.inr o_20)
                              else
                                (feluccalaw06_ContactsRight_L1 k (t, o, a, y6, (List.getD o (Int.toNat y6) (0, 0, 0, 0, 0, 0, 0, 0)).2.1, o_5.1, 0)).bind fun o_16 =>
                                  match o_16 with
                                  | .inl o_17 =>
                                    feluccalaw06_ContactsRight_L0 k (o_17.2.2.2, o_17.1, o_17.2.1, w64 (o_17.2.2.1 + 1))
                                  | .inr o_17 =>
                                    some (Sum.inr o_17)
                            else
                              some (Sum.inr false)
                        else
                          bif decide (o_5.2 = 0) then
                            bif decide ((List.getD o (Int.toNat y6) (0, 0, 0, 0, 0, 0, 0, 0)).1 = 1) then
                              some (Sum.inr false)
                            else
                              bif decide ((List.getD o (Int.toNat y6) (0, 0, 0, 0, 0, 0, 0, 0)).1 = 2) then
                                some (Sum.inr false)
                              else
                                bif decide ((List.getD o (Int.toNat y6) (0, 0, 0, 0, 0, 0, 0, 0)).1 = 3) then
                                  bif !(o_8.1.1 == o_6.1.1 && (o_8.1.2.1 == o_6.1.2.1 && (o_8.1.2.2.1 == o_6.1.2.2.1 && (o_8.1.2.2.2.1 == o_6.1.2.2.2.1 && (o_8.1.2.2.2.2.1 == o_6.1.2.2.2.2.1 && o_8.1.2.2.2.2.2 == (List.getD o (Int.toNat y6) (0, 0, 0, 0, 0, 0, 0, 0)).2.2.2.2.2.2.1))))) then
                                    some (Sum.inr false)
                                  else
                                    bif !decide (Int.ofNat (List.length o_5.1) = Int.ofNat (List.length t)) then
                                      some (Sum.inr false)
                                    else
                                      (feluccalaw06_ContactsRight_L1 k (t, o, a, y6, (List.getD o (Int.toNat y6) (0, 0, 0, 0, 0, 0, 0, 0)).2.1, o_5.1, 0)).bind fun o_19 =>
                                        match o_19 with
                                        | .inl o_20 =>
                                          feluccalaw06_ContactsRight_L0 k (o_20.2.2.2, o_20.1, o_20.2.1, w64 (o_20.2.2.1 + 1))
                                        | .inr o_20 =>
                                          some (Sum.inr o_20)
                                else
                                  (feluccalaw06_ContactsRight_L1 k (t, o, a, y6, (List.getD o (Int.toNat y6) (0, 0, 0, 0, 0, 0, 0, 0)).2.1, o_5.1, 0)).bind fun o_17 =>
                                    match o_17 with
                                    | .inl o_18 =>
                                      feluccalaw06_ContactsRight_L0 k (o_18.2.2.2, o_18.1, o_18.2.1, w64 (o_18.2.2.1 + 1))
                                    | .inr o_18 =>
                                      some (Sum.inr o_18)
                          else
                            (feluccalaw06_ContactsRight_L1 k (t, o, a, y6, (List.getD o (Int.toNat y6) (0, 0, 0, 0, 0, 0, 0, 0)).2.1, o_5.1, 0)).bind fun o_14 =>
                              match o_14 with
                              | .inl o_15 =>
                                feluccalaw06_ContactsRight_L0 k (o_15.2.2.2, o_15.1, o_15.2.1, w64 (o_15.2.2.1 + 1))
                              | .inr o_15 =>
                                some (Sum.inr o_15)
                      else
                        some (Sum.inr false)
                  else
                    (contacts_Right k o_5.1).bind fun o_10 =>
                      bif o_10 then
                        bif !decide (o_5.2 = 0) then
                          (contacts_Same k (o_5.1, t)).bind fun o_13 =>
                            bif o_13 then
                              bif decide (o_5.2 = 0) then
                                bif decide ((List.getD o (Int.toNat y6) (0, 0, 0, 0, 0, 0, 0, 0)).1 = 1) then
                                  some (Sum.inr false)
                                else
                                  bif decide ((List.getD o (Int.toNat y6) (0, 0, 0, 0, 0, 0, 0, 0)).1 = 2) then
                                    bif !decide (Int.ofNat (List.length o_5.1) = w64 (Int.ofNat (List.length t) - 1)) then
                                      some (Sum.inr false)
                                    else
                                      bif decide ((List.getD o (Int.toNat y6) (0, 0, 0, 0, 0, 0, 0, 0)).1 = 3) then
                                        bif !(o_8.1.1 == o_6.1.1 && (o_8.1.2.1 == o_6.1.2.1 && (o_8.1.2.2.1 == o_6.1.2.2.1 && (o_8.1.2.2.2.1 == o_6.1.2.2.2.1 && (o_8.1.2.2.2.2.1 == o_6.1.2.2.2.2.1 && o_8.1.2.2.2.2.2 == (List.getD o (Int.toNat y6) (0, 0, 0, 0, 0, 0, 0, 0)).2.2.2.2.2.2.1))))) then
                                          some (Sum.inr false)
                                        else
                                          bif !decide (Int.ofNat (List.length o_5.1) = Int.ofNat (List.length t)) then
                                            some (Sum.inr false)
                                          else
                                            (feluccalaw06_ContactsRight_L1 k (t, o, a, y6, (List.getD o (Int.toNat y6) (0, 0, 0, 0, 0, 0, 0, 0)).2.1, o_5.1, 0)).bind fun o_22 =>
                                              match o_22 with
                                              | .inl o_23 =>
                                                feluccalaw06_ContactsRight_L0 k (o_23.2.2.2, o_23.1, o_23.2.1, w64 (o_23.2.2.1 + 1))
                                              | .inr o_23 =>
                                                some (Sum.inr o_23)
                                      else
                                        (feluccalaw06_ContactsRight_L1 k (t, o, a, y6, (List.getD o (Int.toNat y6) (0, 0, 0, 0, 0, 0, 0, 0)).2.1, o_5.1, 0)).bind fun o_20 =>
                                          match o_20 with
                                          | .inl o_21 =>
                                            feluccalaw06_ContactsRight_L0 k (o_21.2.2.2, o_21.1, o_21.2.1, w64 (o_21.2.2.1 + 1))
                                          | .inr o_21 =>
                                            some (Sum.inr o_21)
                                  else
                                    bif decide ((List.getD o (Int.toNat y6) (0, 0, 0, 0, 0, 0, 0, 0)).1 = 3) then
                                      bif !(o_8.1.1 == o_6.1.1 && (o_8.1.2.1 == o_6.1.2.1 && (o_8.1.2.2.1 == o_6.1.2.2.1 && (o_8.1.2.2.2.1 == o_6.1.2.2.2.1 && (o_8.1.2.2.2.2.1 == o_6.1.2.2.2.2.1 && o_8.1.2.2.2.2.2 == (List.getD o (Int.toNat y6) (0, 0, 0, 0, 0, 0, 0, 0)).2.2.2.2.2.2.1))))) then
                                        some (Sum.inr false)
                                      else
                                        bif !decide (Int.ofNat (List.length o_5.1) = Int.ofNat (List.length t)) then
                                          some (Sum.inr false)
                                        else
                                          (feluccalaw06_ContactsRight_L1 k (t, o, a, y6, (List.getD o (Int.toNat y6) (0, 0, 0, 0, 0, 0, 0, 0)).2.1, o_5.1, 0)).bind fun o_21 =>
                                            match o_21 with
                                            | .inl o_22 =>
                                              feluccalaw06_ContactsRight_L0 k (o_22.2.2.2, o_22.1, o_22.2.1, w64 (o_22.2.2.1 + 1))
                                            | .inr o_22 =>
                                              some (Sum.inr o_22)
                                    else
                                      (feluccalaw06_ContactsRight_L1 k (t, o, a, y6, (List.getD o (Int.toNat y6) (0, 0, 0, 0, 0, 0, 0, 0)).2.1, o_5.1, 0)).bind fun o_19 =>
                                        match o_19 with
                                        | .inl o_20 =>
                                          feluccalaw06_ContactsRight_L0 k (o_20.2.2.2, o_20.1, o_20.2.1, w64 (o_20.2.2.1 + 1))
                                        | .inr o_20 =>
                                          some (Sum.inr o_20)
                              else
                                (feluccalaw06_ContactsRight_L1 k (t, o, a, y6, (List.getD o (Int.toNat y6) (0, 0, 0, 0, 0, 0, 0, 0)).2.1, o_5.1, 0)).bind fun o_16 =>
                                  match o_16 with
                                  | .inl o_17 =>
                                    feluccalaw06_ContactsRight_L0 k (o_17.2.2.2, o_17.1, o_17.2.1, w64 (o_17.2.2.1 + 1))
                                  | .inr o_17 =>
                                    some (Sum.inr o_17)
                            else
                              some (Sum.inr false)
                        else
                          bif decide (o_5.2 = 0) then
                            bif decide ((List.getD o (Int.toNat y6) (0, 0, 0, 0, 0, 0, 0, 0)).1 = 1) then
                              some (Sum.inr false)
                            else
                              bif decide ((List.getD o (Int.toNat y6) (0, 0, 0, 0, 0, 0, 0, 0)).1 = 2) then
                                bif !decide (Int.ofNat (List.length o_5.1) = w64 (Int.ofNat (List.length t) - 1)) then
                                  some (Sum.inr false)
                                else
                                  bif decide ((List.getD o (Int.toNat y6) (0, 0, 0, 0, 0, 0, 0, 0)).1 = 3) then
                                    bif !(o_8.1.1 == o_6.1.1 && (o_8.1.2.1 == o_6.1.2.1 && (o_8.1.2.2.1 == o_6.1.2.2.1 && (o_8.1.2.2.2.1 == o_6.1.2.2.2.1 && (o_8.1.2.2.2.2.1 == o_6.1.2.2.2.2.1 && o_8.1.2.2.2.2.2 == (List.getD o (Int.toNat y6) (0, 0, 0, 0, 0, 0, 0, 0)).2.2.2.2.2.2.1))))) then
                                      some (Sum.inr false)
                                    else
                                      bif !decide (Int.ofNat (List.length o_5.1) = Int.ofNat (List.length t)) then
                                        some (Sum.inr false)
                                      else
                                        (feluccalaw06_ContactsRight_L1 k (t, o, a, y6, (List.getD o (Int.toNat y6) (0, 0, 0, 0, 0, 0, 0, 0)).2.1, o_5.1, 0)).bind fun o_20 =>
                                          match o_20 with
                                          | .inl o_21 =>
                                            feluccalaw06_ContactsRight_L0 k (o_21.2.2.2, o_21.1, o_21.2.1, w64 (o_21.2.2.1 + 1))
                                          | .inr o_21 =>
                                            some (Sum.inr o_21)
                                  else
                                    (feluccalaw06_ContactsRight_L1 k (t, o, a, y6, (List.getD o (Int.toNat y6) (0, 0, 0, 0, 0, 0, 0, 0)).2.1, o_5.1, 0)).bind fun o_18 =>
                                      match o_18 with
                                      | .inl o_19 =>
                                        feluccalaw06_ContactsRight_L0 k (o_19.2.2.2, o_19.1, o_19.2.1, w64 (o_19.2.2.1 + 1))
                                      | .inr o_19 =>
                                        some (Sum.inr o_19)
                              else
                                bif decide ((List.getD o (Int.toNat y6) (0, 0, 0, 0, 0, 0, 0, 0)).1 = 3) then
                                  bif !(o_8.1.1 == o_6.1.1 && (o_8.1.2.1 == o_6.1.2.1 && (o_8.1.2.2.1 == o_6.1.2.2.1 && (o_8.1.2.2.2.1 == o_6.1.2.2.2.1 && (o_8.1.2.2.2.2.1 == o_6.1.2.2.2.2.1 && o_8.1.2.2.2.2.2 == (List.getD o (Int.toNat y6) (0, 0, 0, 0, 0, 0, 0, 0)).2.2.2.2.2.2.1))))) then
                                    some (Sum.inr false)
                                  else
                                    bif !decide (Int.ofNat (List.length o_5.1) = Int.ofNat (List.length t)) then
                                      some (Sum.inr false)
                                    else
                                      (feluccalaw06_ContactsRight_L1 k (t, o, a, y6, (List.getD o (Int.toNat y6) (0, 0, 0, 0, 0, 0, 0, 0)).2.1, o_5.1, 0)).bind fun o_19 =>
                                        match o_19 with
                                        | .inl o_20 =>
                                          feluccalaw06_ContactsRight_L0 k (o_20.2.2.2, o_20.1, o_20.2.1, w64 (o_20.2.2.1 + 1))
                                        | .inr o_20 =>
                                          some (Sum.inr o_20)
                                else
                                  (feluccalaw06_ContactsRight_L1 k (t, o, a, y6, (List.getD o (Int.toNat y6) (0, 0, 0, 0, 0, 0, 0, 0)).2.1, o_5.1, 0)).bind fun o_17 =>
                                    match o_17 with
                                    | .inl o_18 =>
                                      feluccalaw06_ContactsRight_L0 k (o_18.2.2.2, o_18.1, o_18.2.1, w64 (o_18.2.2.1 + 1))
                                    | .inr o_18 =>
                                      some (Sum.inr o_18)
                          else
                            (feluccalaw06_ContactsRight_L1 k (t, o, a, y6, (List.getD o (Int.toNat y6) (0, 0, 0, 0, 0, 0, 0, 0)).2.1, o_5.1, 0)).bind fun o_14 =>
                              match o_14 with
                              | .inl o_15 =>
                                feluccalaw06_ContactsRight_L0 k (o_15.2.2.2, o_15.1, o_15.2.1, w64 (o_15.2.2.1 + 1))
                              | .inr o_15 =>
                                some (Sum.inr o_15)
                      else
                        some (Sum.inr false)
              else
                (contacts_Find k (o_5.1, (List.getD o (Int.toNat y6) (0, 0, 0, 0, 0, 0, 0, 0)).2.1)).bind fun o_8 =>
                  bif o_8.2 then
                    (contacts_Right k o_5.1).bind fun o_10 =>
                      bif o_10 then
                        bif !decide (o_5.2 = 0) then
                          (contacts_Same k (o_5.1, t)).bind fun o_13 =>
                            bif o_13 then
                              bif decide (o_5.2 = 0) then
                                bif decide ((List.getD o (Int.toNat y6) (0, 0, 0, 0, 0, 0, 0, 0)).1 = 1) then
                                  bif !(o_8.1.1 == (List.getD o (Int.toNat y6) (0, 0, 0, 0, 0, 0, 0, 0)).2.1 && (o_8.1.2.1 == (List.getD o (Int.toNat y6) (0, 0, 0, 0, 0, 0, 0, 0)).2.2.1 && (o_8.1.2.2.1 == (List.getD o (Int.toNat y6) (0, 0, 0, 0, 0, 0, 0, 0)).2.2.2.1 && (o_8.1.2.2.2.1 == (List.getD o (Int.toNat y6) (0, 0, 0, 0, 0, 0, 0, 0)).2.2.2.2.1 && (o_8.1.2.2.2.2.1 == (List.getD o (Int.toNat y6) (0, 0, 0, 0, 0, 0, 0, 0)).2.2.2.2.2.1 && o_8.1.2.2.2.2.2 == (List.getD o (Int.toNat y6) (0, 0, 0, 0, 0, 0, 0, 0)).2.2.2.2.2.2.1))))) then
                                    some (Sum.inr false)
                                  else
                                    bif !decide (Int.ofNat (List.length o_5.1) = w64 (Int.ofNat (List.length t) + 1)) then
                                      some (Sum.inr false)
                                    else
                                      bif decide ((List.getD o (Int.toNat y6) (0, 0, 0, 0, 0, 0, 0, 0)).1 = 2) then
                                        some (Sum.inr false)
                                      else
                                        bif decide ((List.getD o (Int.toNat y6) (0, 0, 0, 0, 0, 0, 0, 0)).1 = 3) then
                                          some (Sum.inr false)
                                        else
                                          (feluccalaw06_ContactsRight_L1 k (t, o, a, y6, (List.getD o (Int.toNat y6) (0, 0, 0, 0, 0, 0, 0, 0)).2.1, o_5.1, 0)).bind fun o_21 =>
                                            match o_21 with
                                            | .inl o_22 =>
                                              feluccalaw06_ContactsRight_L0 k (o_22.2.2.2, o_22.1, o_22.2.1, w64 (o_22.2.2.1 + 1))
                                            | .inr o_22 =>
                                              some (Sum.inr o_22)
                                else
                                  bif decide ((List.getD o (Int.toNat y6) (0, 0, 0, 0, 0, 0, 0, 0)).1 = 2) then
                                    some (Sum.inr false)
                                  else
                                    bif decide ((List.getD o (Int.toNat y6) (0, 0, 0, 0, 0, 0, 0, 0)).1 = 3) then
                                      some (Sum.inr false)
                                    else
                                      (feluccalaw06_ContactsRight_L1 k (t, o, a, y6, (List.getD o (Int.toNat y6) (0, 0, 0, 0, 0, 0, 0, 0)).2.1, o_5.1, 0)).bind fun o_19 =>
                                        match o_19 with
                                        | .inl o_20 =>
                                          feluccalaw06_ContactsRight_L0 k (o_20.2.2.2, o_20.1, o_20.2.1, w64 (o_20.2.2.1 + 1))
                                        | .inr o_20 =>
                                          some (Sum.inr o_20)
                              else
                                (feluccalaw06_ContactsRight_L1 k (t, o, a, y6, (List.getD o (Int.toNat y6) (0, 0, 0, 0, 0, 0, 0, 0)).2.1, o_5.1, 0)).bind fun o_16 =>
                                  match o_16 with
                                  | .inl o_17 =>
                                    feluccalaw06_ContactsRight_L0 k (o_17.2.2.2, o_17.1, o_17.2.1, w64 (o_17.2.2.1 + 1))
                                  | .inr o_17 =>
                                    some (Sum.inr o_17)
                            else
                              some (Sum.inr false)
                        else
                          bif decide (o_5.2 = 0) then
                            bif decide ((List.getD o (Int.toNat y6) (0, 0, 0, 0, 0, 0, 0, 0)).1 = 1) then
                              bif !(o_8.1.1 == (List.getD o (Int.toNat y6) (0, 0, 0, 0, 0, 0, 0, 0)).2.1 && (o_8.1.2.1 == (List.getD o (Int.toNat y6) (0, 0, 0, 0, 0, 0, 0, 0)).2.2.1 && (o_8.1.2.2.1 == (List.getD o (Int.toNat y6) (0, 0, 0, 0, 0, 0, 0, 0)).2.2.2.1 && (o_8.1.2.2.2.1 == (List.getD o (Int.toNat y6) (0, 0, 0, 0, 0, 0, 0, 0)).2.2.2.2.1 && (o_8.1.2.2.2.2.1 == (List.getD o (Int.toNat y6) (0, 0, 0, 0, 0, 0, 0, 0)).2.2.2.2.2.1 && o_8.1.2.2.2.2.2 == (List.getD o (Int.toNat y6) (0, 0, 0, 0, 0, 0, 0, 0)).2.2.2.2.2.2.1))))) then
                                some (Sum.inr false)
                              else
                                bif !decide (Int.ofNat (List.length o_5.1) = w64 (Int.ofNat (List.length t) + 1)) then
                                  some (Sum.inr false)
                                else
                                  bif decide ((List.getD o (Int.toNat y6) (0, 0, 0, 0, 0, 0, 0, 0)).1 = 2) then
                                    some (Sum.inr false)
                                  else
                                    bif decide ((List.getD o (Int.toNat y6) (0, 0, 0, 0, 0, 0, 0, 0)).1 = 3) then
                                      some (Sum.inr false)
                                    else
                                      (feluccalaw06_ContactsRight_L1 k (t, o, a, y6, (List.getD o (Int.toNat y6) (0, 0, 0, 0, 0, 0, 0, 0)).2.1, o_5.1, 0)).bind fun o_19 =>
                                        match o_19 with
                                        | .inl o_20 =>
                                          feluccalaw06_ContactsRight_L0 k (o_20.2.2.2, o_20.1, o_20.2.1, w64 (o_20.2.2.1 + 1))
                                        | .inr o_20 =>
                                          some (Sum.inr o_20)
                            else
                              bif decide ((List.getD o (Int.toNat y6) (0, 0, 0, 0, 0, 0, 0, 0)).1 = 2) then
                                some (Sum.inr false)
                              else
                                bif decide ((List.getD o (Int.toNat y6) (0, 0, 0, 0, 0, 0, 0, 0)).1 = 3) then
                                  some (Sum.inr false)
                                else
                                  (feluccalaw06_ContactsRight_L1 k (t, o, a, y6, (List.getD o (Int.toNat y6) (0, 0, 0, 0, 0, 0, 0, 0)).2.1, o_5.1, 0)).bind fun o_17 =>
                                    match o_17 with
                                    | .inl o_18 =>
                                      feluccalaw06_ContactsRight_L0 k (o_18.2.2.2, o_18.1, o_18.2.1, w64 (o_18.2.2.1 + 1))
                                    | .inr o_18 =>
                                      some (Sum.inr o_18)
                          else
                            (feluccalaw06_ContactsRight_L1 k (t, o, a, y6, (List.getD o (Int.toNat y6) (0, 0, 0, 0, 0, 0, 0, 0)).2.1, o_5.1, 0)).bind fun o_14 =>
                              match o_14 with
                              | .inl o_15 =>
                                feluccalaw06_ContactsRight_L0 k (o_15.2.2.2, o_15.1, o_15.2.1, w64 (o_15.2.2.1 + 1))
                              | .inr o_15 =>
                                some (Sum.inr o_15)
                      else
                        some (Sum.inr false)
                  else
                    (contacts_Right k o_5.1).bind fun o_10 =>
                      bif o_10 then
                        bif !decide (o_5.2 = 0) then
                          (contacts_Same k (o_5.1, t)).bind fun o_13 =>
                            bif o_13 then
                              bif decide (o_5.2 = 0) then
                                bif decide ((List.getD o (Int.toNat y6) (0, 0, 0, 0, 0, 0, 0, 0)).1 = 1) then
                                  bif !(o_8.1.1 == (List.getD o (Int.toNat y6) (0, 0, 0, 0, 0, 0, 0, 0)).2.1 && (o_8.1.2.1 == (List.getD o (Int.toNat y6) (0, 0, 0, 0, 0, 0, 0, 0)).2.2.1 && (o_8.1.2.2.1 == (List.getD o (Int.toNat y6) (0, 0, 0, 0, 0, 0, 0, 0)).2.2.2.1 && (o_8.1.2.2.2.1 == (List.getD o (Int.toNat y6) (0, 0, 0, 0, 0, 0, 0, 0)).2.2.2.2.1 && (o_8.1.2.2.2.2.1 == (List.getD o (Int.toNat y6) (0, 0, 0, 0, 0, 0, 0, 0)).2.2.2.2.2.1 && o_8.1.2.2.2.2.2 == (List.getD o (Int.toNat y6) (0, 0, 0, 0, 0, 0, 0, 0)).2.2.2.2.2.2.1))))) then
                                    some (Sum.inr false)
                                  else
                                    bif !decide (Int.ofNat (List.length o_5.1) = w64 (Int.ofNat (List.length t) + 1)) then
                                      some (Sum.inr false)
                                    else
                                      bif decide ((List.getD o (Int.toNat y6) (0, 0, 0, 0, 0, 0, 0, 0)).1 = 2) then
                                        some (Sum.inr false)
                                      else
                                        bif decide ((List.getD o (Int.toNat y6) (0, 0, 0, 0, 0, 0, 0, 0)).1 = 3) then
                                          some (Sum.inr false)
                                        else
                                          (feluccalaw06_ContactsRight_L1 k (t, o, a, y6, (List.getD o (Int.toNat y6) (0, 0, 0, 0, 0, 0, 0, 0)).2.1, o_5.1, 0)).bind fun o_21 =>
                                            match o_21 with
                                            | .inl o_22 =>
                                              feluccalaw06_ContactsRight_L0 k (o_22.2.2.2, o_22.1, o_22.2.1, w64 (o_22.2.2.1 + 1))
                                            | .inr o_22 =>
                                              some (Sum.inr o_22)
                                else
                                  bif decide ((List.getD o (Int.toNat y6) (0, 0, 0, 0, 0, 0, 0, 0)).1 = 2) then
                                    some (Sum.inr false)
                                  else
                                    bif decide ((List.getD o (Int.toNat y6) (0, 0, 0, 0, 0, 0, 0, 0)).1 = 3) then
                                      some (Sum.inr false)
                                    else
                                      (feluccalaw06_ContactsRight_L1 k (t, o, a, y6, (List.getD o (Int.toNat y6) (0, 0, 0, 0, 0, 0, 0, 0)).2.1, o_5.1, 0)).bind fun o_19 =>
                                        match o_19 with
                                        | .inl o_20 =>
                                          feluccalaw06_ContactsRight_L0 k (o_20.2.2.2, o_20.1, o_20.2.1, w64 (o_20.2.2.1 + 1))
                                        | .inr o_20 =>
                                          some (Sum.inr o_20)
                              else
                                (feluccalaw06_ContactsRight_L1 k (t, o, a, y6, (List.getD o (Int.toNat y6) (0, 0, 0, 0, 0, 0, 0, 0)).2.1, o_5.1, 0)).bind fun o_16 =>
                                  match o_16 with
                                  | .inl o_17 =>
                                    feluccalaw06_ContactsRight_L0 k (o_17.2.2.2, o_17.1, o_17.2.1, w64 (o_17.2.2.1 + 1))
                                  | .inr o_17 =>
                                    some (Sum.inr o_17)
                            else
                              some (Sum.inr false)
                        else
                          bif decide (o_5.2 = 0) then
                            bif decide ((List.getD o (Int.toNat y6) (0, 0, 0, 0, 0, 0, 0, 0)).1 = 1) then
                              bif !(o_8.1.1 == (List.getD o (Int.toNat y6) (0, 0, 0, 0, 0, 0, 0, 0)).2.1 && (o_8.1.2.1 == (List.getD o (Int.toNat y6) (0, 0, 0, 0, 0, 0, 0, 0)).2.2.1 && (o_8.1.2.2.1 == (List.getD o (Int.toNat y6) (0, 0, 0, 0, 0, 0, 0, 0)).2.2.2.1 && (o_8.1.2.2.2.1 == (List.getD o (Int.toNat y6) (0, 0, 0, 0, 0, 0, 0, 0)).2.2.2.2.1 && (o_8.1.2.2.2.2.1 == (List.getD o (Int.toNat y6) (0, 0, 0, 0, 0, 0, 0, 0)).2.2.2.2.2.1 && o_8.1.2.2.2.2.2 == (List.getD o (Int.toNat y6) (0, 0, 0, 0, 0, 0, 0, 0)).2.2.2.2.2.2.1))))) then
                                some (Sum.inr false)
                              else
                                bif !decide (Int.ofNat (List.length o_5.1) = w64 (Int.ofNat (List.length t) + 1)) then
                                  some (Sum.inr false)
                                else
                                  bif decide ((List.getD o (Int.toNat y6) (0, 0, 0, 0, 0, 0, 0, 0)).1 = 2) then
                                    some (Sum.inr false)
                                  else
                                    bif decide ((List.getD o (Int.toNat y6) (0, 0, 0, 0, 0, 0, 0, 0)).1 = 3) then
                                      some (Sum.inr false)
                                    else
                                      (feluccalaw06_ContactsRight_L1 k (t, o, a, y6, (List.getD o (Int.toNat y6) (0, 0, 0, 0, 0, 0, 0, 0)).2.1, o_5.1, 0)).bind fun o_19 =>
                                        match o_19 with
                                        | .inl o_20 =>
                                          feluccalaw06_ContactsRight_L0 k (o_20.2.2.2, o_20.1, o_20.2.1, w64 (o_20.2.2.1 + 1))
                                        | .inr o_20 =>
                                          some (Sum.inr o_20)
                            else
                              bif decide ((List.getD o (Int.toNat y6) (0, 0, 0, 0, 0, 0, 0, 0)).1 = 2) then
                                some (Sum.inr false)
                              else
                                bif decide ((List.getD o (Int.toNat y6) (0, 0, 0, 0, 0, 0, 0, 0)).1 = 3) then
                                  some (Sum.inr false)
                                else
                                  (feluccalaw06_ContactsRight_L1 k (t, o, a, y6, (List.getD o (Int.toNat y6) (0, 0, 0, 0, 0, 0, 0, 0)).2.1, o_5.1, 0)).bind fun o_17 =>
                                    match o_17 with
                                    | .inl o_18 =>
                                      feluccalaw06_ContactsRight_L0 k (o_18.2.2.2, o_18.1, o_18.2.1, w64 (o_18.2.2.1 + 1))
                                    | .inr o_18 =>
                                      some (Sum.inr o_18)
                          else
                            (feluccalaw06_ContactsRight_L1 k (t, o, a, y6, (List.getD o (Int.toNat y6) (0, 0, 0, 0, 0, 0, 0, 0)).2.1, o_5.1, 0)).bind fun o_14 =>
                              match o_14 with
                              | .inl o_15 =>
                                feluccalaw06_ContactsRight_L0 k (o_15.2.2.2, o_15.1, o_15.2.1, w64 (o_15.2.2.1 + 1))
                              | .inr o_15 =>
                                some (Sum.inr o_15)
                      else
                        some (Sum.inr false)
        else
          bif decide ((List.getD o (Int.toNat y6) (0, 0, 0, 0, 0, 0, 0, 0)).1 = 2) then
            (contacts_Delete k (t, (List.getD o (Int.toNat y6) (0, 0, 0, 0, 0, 0, 0, 0)).2.2.2.2.2.2.2)).bind fun o_6 =>
              (contacts_Find k (t, (List.getD o (Int.toNat y6) (0, 0, 0, 0, 0, 0, 0, 0)).2.2.2.2.2.2.2)).bind fun o_7 =>
                bif o_7.2 then
                  (contacts_Find k (o_6.1, (List.getD o (Int.toNat y6) (0, 0, 0, 0, 0, 0, 0, 0)).2.2.2.2.2.2.2)).bind fun o_9 =>
                    bif o_9.2 then
                      (contacts_Right k o_6.1).bind fun o_11 =>
                        bif o_11 then
                          bif !decide (o_6.2 = 0) then
                            (contacts_Same k (o_6.1, t)).bind fun o_14 =>
                              bif o_14 then
                                bif decide (o_6.2 = 0) then
                                  bif decide ((List.getD o (Int.toNat y6) (0, 0, 0, 0, 0, 0, 0, 0)).1 = 1) then
                                    some (Sum.inr false)
                                  else
                                    bif decide ((List.getD o (Int.toNat y6) (0, 0, 0, 0, 0, 0, 0, 0)).1 = 2) then
                                      some (Sum.inr false)
                                    else
                                      bif decide ((List.getD o (Int.toNat y6) (0, 0, 0, 0, 0, 0, 0, 0)).1 = 3) then
                                        bif !(o_9.1.1 == o_7.1.1 && (o_9.1.2.1 == o_7.1.2.1 && (o_9.1.2.2.1 == o_7.1.2.2.1 && (o_9.1.2.2.2.1 == o_7.1.2.2.2.1 && (o_9.1.2.2.2.2.1 == o_7.1.2.2.2.2.1 && o_9.1.2.2.2.2.2 == (List.getD o (Int.toNat y6) (0, 0, 0, 0, 0, 0, 0, 0)).2.2.2.2.2.2.1))))) then
                                          some (Sum.inr false)
                                        else
                                          bif !decide (Int.ofNat (List.length o_6.1) = Int.ofNat (List.length t)) then
                                            some (Sum.inr false)
                                          else
                                            (feluccalaw06_ContactsRight_L1 k (t, o, a, y6, (List.getD o (Int.toNat y6) (0, 0, 0, 0, 0, 0, 0, 0)).2.2.2.2.2.2.2, o_6.1, 0)).bind fun o_22 =>
                                              match o_22 with
                                              | .inl o_23 =>
                                                feluccalaw06_ContactsRight_L0 k (o_23.2.2.2, o_23.1, o_23.2.1, w64 (o_23.2.2.1 + 1))
                                              | .inr o_23 =>
                                                some (Sum.inr o_23)
                                      else
                                        (feluccalaw06_ContactsRight_L1 k (t, o, a, y6, (List.getD o (Int.toNat y6) (0, 0, 0, 0, 0, 0, 0, 0)).2.2.2.2.2.2.2, o_6.1, 0)).bind fun o_20 =>
                                          match o_20 with
                                          | .inl o_21 =>
                                            feluccalaw06_ContactsRight_L0 k (o_21.2.2.2, o_21.1, o_21.2.1, w64 (o_21.2.2.1 + 1))
                                          | .inr o_21 =>
                                            some (Sum.inr o_21)
                                else
                                  (feluccalaw06_ContactsRight_L1 k (t, o, a, y6, (List.getD o (Int.toNat y6) (0, 0, 0, 0, 0, 0, 0, 0)).2.2.2.2.2.2.2, o_6.1, 0)).bind fun o_17 =>
                                    match o_17 with
                                    | .inl o_18 =>
                                      feluccalaw06_ContactsRight_L0 k (o_18.2.2.2, o_18.1, o_18.2.1, w64 (o_18.2.2.1 + 1))
                                    | .inr o_18 =>
                                      some (Sum.inr o_18)
                              else
                                some (Sum.inr false)
                          else
                            bif decide (o_6.2 = 0) then
                              bif decide ((List.getD o (Int.toNat y6) (0, 0, 0, 0, 0, 0, 0, 0)).1 = 1) then
                                some (Sum.inr false)
                              else
                                bif decide ((List.getD o (Int.toNat y6) (0, 0, 0, 0, 0, 0, 0, 0)).1 = 2) then
                                  some (Sum.inr false)
                                else
                                  bif decide ((List.getD o (Int.toNat y6) (0, 0, 0, 0, 0, 0, 0, 0)).1 = 3) then
                                    bif !(o_9.1.1 == o_7.1.1 && (o_9.1.2.1 == o_7.1.2.1 && (o_9.1.2.2.1 == o_7.1.2.2.1 && (o_9.1.2.2.2.1 == o_7.1.2.2.2.1 && (o_9.1.2.2.2.2.1 == o_7.1.2.2.2.2.1 && o_9.1.2.2.2.2.2 == (List.getD o (Int.toNat y6) (0, 0, 0, 0, 0, 0, 0, 0)).2.2.2.2.2.2.1))))) then
                                      some (Sum.inr false)
                                    else
                                      bif !decide (Int.ofNat (List.length o_6.1) = Int.ofNat (List.length t)) then
                                        some (Sum.inr false)
                                      else
                                        (feluccalaw06_ContactsRight_L1 k (t, o, a, y6, (List.getD o (Int.toNat y6) (0, 0, 0, 0, 0, 0, 0, 0)).2.2.2.2.2.2.2, o_6.1, 0)).bind fun o_20 =>
                                          match o_20 with
                                          | .inl o_21 =>
                                            feluccalaw06_ContactsRight_L0 k (o_21.2.2.2, o_21.1, o_21.2.1, w64 (o_21.2.2.1 + 1))
                                          | .inr o_21 =>
                                            some (Sum.inr o_21)
                                  else
                                    (feluccalaw06_ContactsRight_L1 k (t, o, a, y6, (List.getD o (Int.toNat y6) (0, 0, 0, 0, 0, 0, 0, 0)).2.2.2.2.2.2.2, o_6.1, 0)).bind fun o_18 =>
                                      match o_18 with
                                      | .inl o_19 =>
                                        feluccalaw06_ContactsRight_L0 k (o_19.2.2.2, o_19.1, o_19.2.1, w64 (o_19.2.2.1 + 1))
                                      | .inr o_19 =>
                                        some (Sum.inr o_19)
                            else
                              (feluccalaw06_ContactsRight_L1 k (t, o, a, y6, (List.getD o (Int.toNat y6) (0, 0, 0, 0, 0, 0, 0, 0)).2.2.2.2.2.2.2, o_6.1, 0)).bind fun o_15 =>
                                match o_15 with
                                | .inl o_16 =>
                                  feluccalaw06_ContactsRight_L0 k (o_16.2.2.2, o_16.1, o_16.2.1, w64 (o_16.2.2.1 + 1))
                                | .inr o_16 =>
                                  some (Sum.inr o_16)
                        else
                          some (Sum.inr false)
                    else
                      (contacts_Right k o_6.1).bind fun o_11 =>
                        bif o_11 then
                          bif !decide (o_6.2 = 0) then
                            (contacts_Same k (o_6.1, t)).bind fun o_14 =>
                              bif o_14 then
                                bif decide (o_6.2 = 0) then
                                  bif decide ((List.getD o (Int.toNat y6) (0, 0, 0, 0, 0, 0, 0, 0)).1 = 1) then
                                    some (Sum.inr false)
                                  else
                                    bif decide ((List.getD o (Int.toNat y6) (0, 0, 0, 0, 0, 0, 0, 0)).1 = 2) then
                                      bif !decide (Int.ofNat (List.length o_6.1) = w64 (Int.ofNat (List.length t) - 1)) then
                                        some (Sum.inr false)
                                      else
                                        bif decide ((List.getD o (Int.toNat y6) (0, 0, 0, 0, 0, 0, 0, 0)).1 = 3) then
                                          bif !(o_9.1.1 == o_7.1.1 && (o_9.1.2.1 == o_7.1.2.1 && (o_9.1.2.2.1 == o_7.1.2.2.1 && (o_9.1.2.2.2.1 == o_7.1.2.2.2.1 && (o_9.1.2.2.2.2.1 == o_7.1.2.2.2.2.1 && o_9.1.2.2.2.2.2 == (List.getD o (Int.toNat y6) (0, 0, 0, 0, 0, 0, 0, 0)).2.2.2.2.2.2.1))))) then
                                            some (Sum.inr false)
                                          else
                                            bif !decide (Int.ofNat (List.length o_6.1) = Int.ofNat (List.length t)) then
                                              some (Sum.inr false)
                                            else
                                              (feluccalaw06_ContactsRight_L1 k (t, o, a, y6, (List.getD o (Int.toNat y6) (0, 0, 0, 0, 0, 0, 0, 0)).2.2.2.2.2.2.2, o_6.1, 0)).bind fun o_23 =>
                                                match o_23 with
                                                | .inl o_24 =>
                                                  feluccalaw06_ContactsRight_L0 k (o_24.2.2.2, o_24.1, o_24.2.1, w64 (o_24.2.2.1 + 1))
                                                | .inr o_24 =>
                                                  some (Sum.inr o_24)
                                        else
                                          (feluccalaw06_ContactsRight_L1 k (t, o, a, y6, (List.getD o (Int.toNat y6) (0, 0, 0, 0, 0, 0, 0, 0)).2.2.2.2.2.2.2, o_6.1, 0)).bind fun o_21 =>
                                            match o_21 with
                                            | .inl o_22 =>
                                              feluccalaw06_ContactsRight_L0 k (o_22.2.2.2, o_22.1, o_22.2.1, w64 (o_22.2.2.1 + 1))
                                            | .inr o_22 =>
                                              some (Sum.inr o_22)
                                    else
                                      bif decide ((List.getD o (Int.toNat y6) (0, 0, 0, 0, 0, 0, 0, 0)).1 = 3) then
                                        bif !(o_9.1.1 == o_7.1.1 && (o_9.1.2.1 == o_7.1.2.1 && (o_9.1.2.2.1 == o_7.1.2.2.1 && (o_9.1.2.2.2.1 == o_7.1.2.2.2.1 && (o_9.1.2.2.2.2.1 == o_7.1.2.2.2.2.1 && o_9.1.2.2.2.2.2 == (List.getD o (Int.toNat y6) (0, 0, 0, 0, 0, 0, 0, 0)).2.2.2.2.2.2.1))))) then
                                          some (Sum.inr false)
                                        else
                                          bif !decide (Int.ofNat (List.length o_6.1) = Int.ofNat (List.length t)) then
                                            some (Sum.inr false)
                                          else
                                            (feluccalaw06_ContactsRight_L1 k (t, o, a, y6, (List.getD o (Int.toNat y6) (0, 0, 0, 0, 0, 0, 0, 0)).2.2.2.2.2.2.2, o_6.1, 0)).bind fun o_22 =>
                                              match o_22 with
                                              | .inl o_23 =>
                                                feluccalaw06_ContactsRight_L0 k (o_23.2.2.2, o_23.1, o_23.2.1, w64 (o_23.2.2.1 + 1))
                                              | .inr o_23 =>
                                                some (Sum.inr o_23)
                                      else
                                        (feluccalaw06_ContactsRight_L1 k (t, o, a, y6, (List.getD o (Int.toNat y6) (0, 0, 0, 0, 0, 0, 0, 0)).2.2.2.2.2.2.2, o_6.1, 0)).bind fun o_20 =>
                                          match o_20 with
                                          | .inl o_21 =>
                                            feluccalaw06_ContactsRight_L0 k (o_21.2.2.2, o_21.1, o_21.2.1, w64 (o_21.2.2.1 + 1))
                                          | .inr o_21 =>
                                            some (Sum.inr o_21)
                                else
                                  (feluccalaw06_ContactsRight_L1 k (t, o, a, y6, (List.getD o (Int.toNat y6) (0, 0, 0, 0, 0, 0, 0, 0)).2.2.2.2.2.2.2, o_6.1, 0)).bind fun o_17 =>
                                    match o_17 with
                                    | .inl o_18 =>
                                      feluccalaw06_ContactsRight_L0 k (o_18.2.2.2, o_18.1, o_18.2.1, w64 (o_18.2.2.1 + 1))
                                    | .inr o_18 =>
                                      some (Sum.inr o_18)
                              else
                                some (Sum.inr false)
                          else
                            bif decide (o_6.2 = 0) then
                              bif decide ((List.getD o (Int.toNat y6) (0, 0, 0, 0, 0, 0, 0, 0)).1 = 1) then
                                some (Sum.inr false)
                              else
                                bif decide ((List.getD o (Int.toNat y6) (0, 0, 0, 0, 0, 0, 0, 0)).1 = 2) then
                                  bif !decide (Int.ofNat (List.length o_6.1) = w64 (Int.ofNat (List.length t) - 1)) then
                                    some (Sum.inr false)
                                  else
                                    bif decide ((List.getD o (Int.toNat y6) (0, 0, 0, 0, 0, 0, 0, 0)).1 = 3) then
                                      bif !(o_9.1.1 == o_7.1.1 && (o_9.1.2.1 == o_7.1.2.1 && (o_9.1.2.2.1 == o_7.1.2.2.1 && (o_9.1.2.2.2.1 == o_7.1.2.2.2.1 && (o_9.1.2.2.2.2.1 == o_7.1.2.2.2.2.1 && o_9.1.2.2.2.2.2 == (List.getD o (Int.toNat y6) (0, 0, 0, 0, 0, 0, 0, 0)).2.2.2.2.2.2.1))))) then
                                        some (Sum.inr false)
                                      else
                                        bif !decide (Int.ofNat (List.length o_6.1) = Int.ofNat (List.length t)) then
                                          some (Sum.inr false)
                                        else
                                          (feluccalaw06_ContactsRight_L1 k (t, o, a, y6, (List.getD o (Int.toNat y6) (0, 0, 0, 0, 0, 0, 0, 0)).2.2.2.2.2.2.2, o_6.1, 0)).bind fun o_21 =>
                                            match o_21 with
                                            | .inl o_22 =>
                                              feluccalaw06_ContactsRight_L0 k (o_22.2.2.2, o_22.1, o_22.2.1, w64 (o_22.2.2.1 + 1))
                                            | .inr o_22 =>
                                              some (Sum.inr o_22)
                                    else
                                      (feluccalaw06_ContactsRight_L1 k (t, o, a, y6, (List.getD o (Int.toNat y6) (0, 0, 0, 0, 0, 0, 0, 0)).2.2.2.2.2.2.2, o_6.1, 0)).bind fun o_19 =>
                                        match o_19 with
                                        | .inl o_20 =>
                                          feluccalaw06_ContactsRight_L0 k (o_20.2.2.2, o_20.1, o_20.2.1, w64 (o_20.2.2.1 + 1))
                                        | .inr o_20 =>
                                          some (Sum.inr o_20)
                                else
                                  bif decide ((List.getD o (Int.toNat y6) (0, 0, 0, 0, 0, 0, 0, 0)).1 = 3) then
                                    bif !(o_9.1.1 == o_7.1.1 && (o_9.1.2.1 == o_7.1.2.1 && (o_9.1.2.2.1 == o_7.1.2.2.1 && (o_9.1.2.2.2.1 == o_7.1.2.2.2.1 && (o_9.1.2.2.2.2.1 == o_7.1.2.2.2.2.1 && o_9.1.2.2.2.2.2 == (List.getD o (Int.toNat y6) (0, 0, 0, 0, 0, 0, 0, 0)).2.2.2.2.2.2.1))))) then
                                      some (Sum.inr false)
                                    else
                                      bif !decide (Int.ofNat (List.length o_6.1) = Int.ofNat (List.length t)) then
                                        some (Sum.inr false)
                                      else
                                        (feluccalaw06_ContactsRight_L1 k (t, o, a, y6, (List.getD o (Int.toNat y6) (0, 0, 0, 0, 0, 0, 0, 0)).2.2.2.2.2.2.2, o_6.1, 0)).bind fun o_20 =>
                                          match o_20 with
                                          | .inl o_21 =>
                                            feluccalaw06_ContactsRight_L0 k (o_21.2.2.2, o_21.1, o_21.2.1, w64 (o_21.2.2.1 + 1))
                                          | .inr o_21 =>
                                            some (Sum.inr o_21)
                                  else
                                    (feluccalaw06_ContactsRight_L1 k (t, o, a, y6, (List.getD o (Int.toNat y6) (0, 0, 0, 0, 0, 0, 0, 0)).2.2.2.2.2.2.2, o_6.1, 0)).bind fun o_18 =>
                                      match o_18 with
                                      | .inl o_19 =>
                                        feluccalaw06_ContactsRight_L0 k (o_19.2.2.2, o_19.1, o_19.2.1, w64 (o_19.2.2.1 + 1))
                                      | .inr o_19 =>
                                        some (Sum.inr o_19)
                            else
                              (feluccalaw06_ContactsRight_L1 k (t, o, a, y6, (List.getD o (Int.toNat y6) (0, 0, 0, 0, 0, 0, 0, 0)).2.2.2.2.2.2.2, o_6.1, 0)).bind fun o_15 =>
                                match o_15 with
                                | .inl o_16 =>
                                  feluccalaw06_ContactsRight_L0 k (o_16.2.2.2, o_16.1, o_16.2.1, w64 (o_16.2.2.1 + 1))
                                | .inr o_16 =>
                                  some (Sum.inr o_16)
                        else
                          some (Sum.inr false)
                else
                  (contacts_Find k (o_6.1, (List.getD o (Int.toNat y6) (0, 0, 0, 0, 0, 0, 0, 0)).2.2.2.2.2.2.2)).bind fun o_9 =>
                    bif o_9.2 then
                      (contacts_Right k o_6.1).bind fun o_11 =>
                        bif o_11 then
                          bif !decide (o_6.2 = 0) then
                            (contacts_Same k (o_6.1, t)).bind fun o_14 =>
                              bif o_14 then
                                bif decide (o_6.2 = 0) then
                                  bif decide ((List.getD o (Int.toNat y6) (0, 0, 0, 0, 0, 0, 0, 0)).1 = 1) then
                                    bif !(o_9.1.1 == (List.getD o (Int.toNat y6) (0, 0, 0, 0, 0, 0, 0, 0)).2.1 && (o_9.1.2.1 == (List.getD o (Int.toNat y6) (0, 0, 0, 0, 0, 0, 0, 0)).2.2.1 && (o_9.1.2.2.1 == (List.getD o (Int.toNat y6) (0, 0, 0, 0, 0, 0, 0, 0)).2.2.2.1 && (o_9.1.2.2.2.1 == (List.getD o (Int.toNat y6) (0, 0, 0, 0, 0, 0, 0, 0)).2.2.2.2.1 && (o_9.1.2.2.2.2.1 == (List.getD o (Int.toNat y6) (0, 0, 0, 0, 0, 0, 0, 0)).2.2.2.2.2.1 && o_9.1.2.2.2.2.2 == (List.getD o (Int.toNat y6) (0, 0, 0, 0, 0, 0, 0, 0)).2.2.2.2.2.2.1))))) then
                                      some (Sum.inr false)
                                    else
                                      bif !decide (Int.ofNat (List.length o_6.1) = w64 (Int.ofNat (List.length t) + 1)) then
                                        some (Sum.inr false)
                                      else
                                        bif decide ((List.getD o (Int.toNat y6) (0, 0, 0, 0, 0, 0, 0, 0)).1 = 2) then
                                          some (Sum.inr false)
                                        else
                                          bif decide ((List.getD o (Int.toNat y6) (0, 0, 0, 0, 0, 0, 0, 0)).1 = 3) then
                                            some (Sum.inr false)
                                          else
                                            (feluccalaw06_ContactsRight_L1 k (t, o, a, y6, (List.getD o (Int.toNat y6) (0, 0, 0, 0, 0, 0, 0, 0)).2.2.2.2.2.2.2, o_6.1, 0)).bind fun o_22 =>
                                              match o_22 with
                                              | .inl o_23 =>
                                                feluccalaw06_ContactsRight_L0 k (o_23.2.2.2, o_23.1, o_23.2.1, w64 (o_23.2.2.1 + 1))
                                              | .inr o_23 =>
                                                some (Sum.inr o_23)
                                  else
                                    bif decide ((List.getD o (Int.toNat y6) (0, 0, 0, 0, 0, 0, 0, 0)).1 = 2) then
                                      some (Sum.inr false)
                                    else
                                      bif decide ((List.getD o (Int.toNat y6) (0, 0, 0, 0, 0, 0, 0, 0)).1 = 3) then
                                        some (Sum.inr false)
                                      else
                                        (feluccalaw06_ContactsRight_L1 k (t, o, a, y6, (List.getD o (Int.toNat y6) (0, 0, 0, 0, 0, 0, 0, 0)).2.2.2.2.2.2.2, o_6.1, 0)).bind fun o_20 =>
                                          match o_20 with
                                          | .inl o_21 =>
                                            feluccalaw06_ContactsRight_L0 k (o_21.2.2.2, o_21.1, o_21.2.1, w64 (o_21.2.2.1 + 1))
                                          | .inr o_21 =>
                                            some (Sum.inr o_21)
                                else
                                  (feluccalaw06_ContactsRight_L1 k (t, o, a, y6, (List.getD o (Int.toNat y6) (0, 0, 0, 0, 0, 0, 0, 0)).2.2.2.2.2.2.2, o_6.1, 0)).bind fun o_17 =>
                                    match o_17 with
                                    | .inl o_18 =>
                                      feluccalaw06_ContactsRight_L0 k (o_18.2.2.2, o_18.1, o_18.2.1, w64 (o_18.2.2.1 + 1))
                                    | .inr o_18 =>
                                      some (Sum.inr o_18)
                              else
                                some (Sum.inr false)
                          else
                            bif decide (o_6.2 = 0) then
                              bif decide ((List.getD o (Int.toNat y6) (0, 0, 0, 0, 0, 0, 0, 0)).1 = 1) then
                                bif !(o_9.1.1 == (List.getD o (Int.toNat y6) (0, 0, 0, 0, 0, 0, 0, 0)).2.1 && (o_9.1.2.1 == (List.getD o (Int.toNat y6) (0, 0, 0, 0, 0, 0, 0, 0)).2.2.1 && (o_9.1.2.2.1 == (List.getD o (Int.toNat y6) (0, 0, 0, 0, 0, 0, 0, 0)).2.2.2.1 && (o_9.1.2.2.2.1 == (List.getD o (Int.toNat y6) (0, 0, 0, 0, 0, 0, 0, 0)).2.2.2.2.1 && (o_9.1.2.2.2.2.1 == (List.getD o (Int.toNat y6) (0, 0, 0, 0, 0, 0, 0, 0)).2.2.2.2.2.1 && o_9.1.2.2.2.2.2 == (List.getD o (Int.toNat y6) (0, 0, 0, 0, 0, 0, 0, 0)).2.2.2.2.2.2.1))))) then
                                  some (Sum.inr false)
                                else
                                  bif !decide (Int.ofNat (List.length o_6.1) = w64 (Int.ofNat (List.length t) + 1)) then
                                    some (Sum.inr false)
                                  else
                                    bif decide ((List.getD o (Int.toNat y6) (0, 0, 0, 0, 0, 0, 0, 0)).1 = 2) then
                                      some (Sum.inr false)
                                    else
                                      bif decide ((List.getD o (Int.toNat y6) (0, 0, 0, 0, 0, 0, 0, 0)).1 = 3) then
                                        some (Sum.inr false)
                                      else
                                        (feluccalaw06_ContactsRight_L1 k (t, o, a, y6, (List.getD o (Int.toNat y6) (0, 0, 0, 0, 0, 0, 0, 0)).2.2.2.2.2.2.2, o_6.1, 0)).bind fun o_20 =>
                                          match o_20 with
                                          | .inl o_21 =>
                                            feluccalaw06_ContactsRight_L0 k (o_21.2.2.2, o_21.1, o_21.2.1, w64 (o_21.2.2.1 + 1))
                                          | .inr o_21 =>
                                            some (Sum.inr o_21)
                              else
                                bif decide ((List.getD o (Int.toNat y6) (0, 0, 0, 0, 0, 0, 0, 0)).1 = 2) then
                                  some (Sum.inr false)
                                else
                                  bif decide ((List.getD o (Int.toNat y6) (0, 0, 0, 0, 0, 0, 0, 0)).1 = 3) then
                                    some (Sum.inr false)
                                  else
                                    (feluccalaw06_ContactsRight_L1 k (t, o, a, y6, (List.getD o (Int.toNat y6) (0, 0, 0, 0, 0, 0, 0, 0)).2.2.2.2.2.2.2, o_6.1, 0)).bind fun o_18 =>
                                      match o_18 with
                                      | .inl o_19 =>
                                        feluccalaw06_ContactsRight_L0 k (o_19.2.2.2, o_19.1, o_19.2.1, w64 (o_19.2.2.1 + 1))
                                      | .inr o_19 =>
                                        some (Sum.inr o_19)
                            else
                              (feluccalaw06_ContactsRight_L1 k (t, o, a, y6, (List.getD o (Int.toNat y6) (0, 0, 0, 0, 0, 0, 0, 0)).2.2.2.2.2.2.2, o_6.1, 0)).bind fun o_15 =>
                                match o_15 with
                                | .inl o_16 =>
                                  feluccalaw06_ContactsRight_L0 k (o_16.2.2.2, o_16.1, o_16.2.1, w64 (o_16.2.2.1 + 1))
                                | .inr o_16 =>
                                  some (Sum.inr o_16)
                        else
                          some (Sum.inr false)
                    else
                      (contacts_Right k o_6.1).bind fun o_11 =>
                        bif o_11 then
                          bif !decide (o_6.2 = 0) then
                            (contacts_Same k (o_6.1, t)).bind fun o_14 =>
                              bif o_14 then
                                bif decide (o_6.2 = 0) then
                                  bif decide ((List.getD o (Int.toNat y6) (0, 0, 0, 0, 0, 0, 0, 0)).1 = 1) then
                                    bif !(o_9.1.1 == (List.getD o (Int.toNat y6) (0, 0, 0, 0, 0, 0, 0, 0)).2.1 && (o_9.1.2.1 == (List.getD o (Int.toNat y6) (0, 0, 0, 0, 0, 0, 0, 0)).2.2.1 && (o_9.1.2.2.1 == (List.getD o (Int.toNat y6) (0, 0, 0, 0, 0, 0, 0, 0)).2.2.2.1 && (o_9.1.2.2.2.1 == (List.getD o (Int.toNat y6) (0, 0, 0, 0, 0, 0, 0, 0)).2.2.2.2.1 && (o_9.1.2.2.2.2.1 == (List.getD o (Int.toNat y6) (0, 0, 0, 0, 0, 0, 0, 0)).2.2.2.2.2.1 && o_9.1.2.2.2.2.2 == (List.getD o (Int.toNat y6) (0, 0, 0, 0, 0, 0, 0, 0)).2.2.2.2.2.2.1))))) then
                                      some (Sum.inr false)
                                    else
                                      bif !decide (Int.ofNat (List.length o_6.1) = w64 (Int.ofNat (List.length t) + 1)) then
                                        some (Sum.inr false)
                                      else
                                        bif decide ((List.getD o (Int.toNat y6) (0, 0, 0, 0, 0, 0, 0, 0)).1 = 2) then
                                          some (Sum.inr false)
                                        else
                                          bif decide ((List.getD o (Int.toNat y6) (0, 0, 0, 0, 0, 0, 0, 0)).1 = 3) then
                                            some (Sum.inr false)
                                          else
                                            (feluccalaw06_ContactsRight_L1 k (t, o, a, y6, (List.getD o (Int.toNat y6) (0, 0, 0, 0, 0, 0, 0, 0)).2.2.2.2.2.2.2, o_6.1, 0)).bind fun o_22 =>
                                              match o_22 with
                                              | .inl o_23 =>
                                                feluccalaw06_ContactsRight_L0 k (o_23.2.2.2, o_23.1, o_23.2.1, w64 (o_23.2.2.1 + 1))
                                              | .inr o_23 =>
                                                some (Sum.inr o_23)
                                  else
                                    bif decide ((List.getD o (Int.toNat y6) (0, 0, 0, 0, 0, 0, 0, 0)).1 = 2) then
                                      some (Sum.inr false)
                                    else
                                      bif decide ((List.getD o (Int.toNat y6) (0, 0, 0, 0, 0, 0, 0, 0)).1 = 3) then
                                        some (Sum.inr false)
                                      else
                                        (feluccalaw06_ContactsRight_L1 k (t, o, a, y6, (List.getD o (Int.toNat y6) (0, 0, 0, 0, 0, 0, 0, 0)).2.2.2.2.2.2.2, o_6.1, 0)).bind fun o_20 =>
                                          match o_20 with
                                          | .inl o_21 =>
                                            feluccalaw06_ContactsRight_L0 k (o_21.2.2.2, o_21.1, o_21.2.1, w64 (o_21.2.2.1 + 1))
                                          | .inr o_21 =>
                                            some (Sum.inr o_21)
                                else
                                  (feluccalaw06_ContactsRight_L1 k (t, o, a, y6, (List.getD o (Int.toNat y6) (0, 0, 0, 0, 0, 0, 0, 0)).2.2.2.2.2.2.2, o_6.1, 0)).bind fun o_17 =>
                                    match o_17 with
                                    | .inl o_18 =>
                                      feluccalaw06_ContactsRight_L0 k (o_18.2.2.2, o_18.1, o_18.2.1, w64 (o_18.2.2.1 + 1))
                                    | .inr o_18 =>
                                      some (Sum.inr o_18)
                              else
                                some (Sum.inr false)
                          else
                            bif decide (o_6.2 = 0) then
                              bif decide ((List.getD o (Int.toNat y6) (0, 0, 0, 0, 0, 0, 0, 0)).1 = 1) then
                                bif !(o_9.1.1 == (List.getD o (Int.toNat y6) (0, 0, 0, 0, 0, 0, 0, 0)).2.1 && (o_9.1.2.1 == (List.getD o (Int.toNat y6) (0, 0, 0, 0, 0, 0, 0, 0)).2.2.1 && (o_9.1.2.2.1 == (List.getD o (Int.toNat y6) (0, 0, 0, 0, 0, 0, 0, 0)).2.2.2.1 && (o_9.1.2.2.2.1 == (List.getD o (Int.toNat y6) (0, 0, 0, 0, 0, 0, 0, 0)).2.2.2.2.1 && (o_9.1.2.2.2.2.1 == (List.getD o (Int.toNat y6) (0, 0, 0, 0, 0, 0, 0, 0)).2.2.2.2.2.1 && o_9.1.2.2.2.2.2 == (List.getD o (Int.toNat y6) (0, 0, 0, 0, 0, 0, 0, 0)).2.2.2.2.2.2.1))))) then
                                  some (Sum.inr false)
                                else
                                  bif !decide (Int.ofNat (List.length o_6.1) = w64 (Int.ofNat (List.length t) + 1)) then
                                    some (Sum.inr false)
                                  else
                                    bif decide ((List.getD o (Int.toNat y6) (0, 0, 0, 0, 0, 0, 0, 0)).1 = 2) then
                                      some (Sum.inr false)
                                    else
                                      bif decide ((List.getD o (Int.toNat y6) (0, 0, 0, 0, 0, 0, 0, 0)).1 = 3) then
                                        some (Sum.inr false)
                                      else
                                        (feluccalaw06_ContactsRight_L1 k (t, o, a, y6, (List.getD o (Int.toNat y6) (0, 0, 0, 0, 0, 0, 0, 0)).2.2.2.2.2.2.2, o_6.1, 0)).bind fun o_20 =>
                                          match o_20 with
                                          | .inl o_21 =>
                                            feluccalaw06_ContactsRight_L0 k (o_21.2.2.2, o_21.1, o_21.2.1, w64 (o_21.2.2.1 + 1))
                                          | .inr o_21 =>
                                            some (Sum.inr o_21)
                              else
                                bif decide ((List.getD o (Int.toNat y6) (0, 0, 0, 0, 0, 0, 0, 0)).1 = 2) then
                                  some (Sum.inr false)
                                else
                                  bif decide ((List.getD o (Int.toNat y6) (0, 0, 0, 0, 0, 0, 0, 0)).1 = 3) then
                                    some (Sum.inr false)
                                  else
                                    (feluccalaw06_ContactsRight_L1 k (t, o, a, y6, (List.getD o (Int.toNat y6) (0, 0, 0, 0, 0, 0, 0, 0)).2.2.2.2.2.2.2, o_6.1, 0)).bind fun o_18 =>
                                      match o_18 with
                                      | .inl o_19 =>
                                        feluccalaw06_ContactsRight_L0 k (o_19.2.2.2, o_19.1, o_19.2.1, w64 (o_19.2.2.1 + 1))
                                      | .inr o_19 =>
                                        some (Sum.inr o_19)
                            else
                              (feluccalaw06_ContactsRight_L1 k (t, o, a, y6, (List.getD o (Int.toNat y6) (0, 0, 0, 0, 0, 0, 0, 0)).2.2.2.2.2.2.2, o_6.1, 0)).bind fun o_15 =>
                                match o_15 with
                                | .inl o_16 =>
                                  feluccalaw06_ContactsRight_L0 k (o_16.2.2.2, o_16.1, o_16.2.1, w64 (o_16.2.2.1 + 1))
                                | .inr o_16 =>
                                  some (Sum.inr o_16)
                        else
                          some (Sum.inr false)
          else
            bif decide ((List.getD o (Int.toNat y6) (0, 0, 0, 0, 0, 0, 0, 0)).1 = 3) then
              (contacts_Change k (t, (List.getD o (Int.toNat y6) (0, 0, 0, 0, 0, 0, 0, 0)).2.2.2.2.2.2.2, (List.getD o (Int.toNat y6) (0, 0, 0, 0, 0, 0, 0, 0)).2.2.2.2.2.2.1)).bind fun o_7 =>
                (contacts_Find k (t, (List.getD o (Int.toNat y6) (0, 0, 0, 0, 0, 0, 0, 0)).2.2.2.2.2.2.2)).bind fun o_8 =>
                  bif o_8.2 then
                    (contacts_Find k (o_7.1, (List.getD o (Int.toNat y6) (0, 0, 0, 0, 0, 0, 0, 0)).2.2.2.2.2.2.2)).bind fun o_10 =>
                      bif o_10.2 then
                        (contacts_Right k o_7.1).bind fun o_12 =>
                          bif o_12 then
                            bif !decide (o_7.2 = 0) then
                              (contacts_Same k (o_7.1, t)).bind fun o_15 =>
                                bif o_15 then
                                  bif decide (o_7.2 = 0) then
                                    bif decide ((List.getD o (Int.toNat y6) (0, 0, 0, 0, 0, 0, 0, 0)).1 = 1) then
                                      some (Sum.inr false)
                                    else
                                      bif decide ((List.getD o (Int.toNat y6) (0, 0, 0, 0, 0, 0, 0, 0)).1 = 2) then
                                        some (Sum.inr false)
                                      else
                                        bif decide ((List.getD o (Int.toNat y6) (0, 0, 0, 0, 0, 0, 0, 0)).1 = 3) then
                                          bif !(o_10.1.1 == o_8.1.1 && (o_10.1.2.1 == o_8.1.2.1 && (o_10.1.2.2.1 == o_8.1.2.2.1 && (o_10.1.2.2.2.1 == o_8.1.2.2.2.1 && (o_10.1.2.2.2.2.1 == o_8.1.2.2.2.2.1 && o_10.1.2.2.2.2.2 == (List.getD o (Int.toNat y6) (0, 0, 0, 0, 0, 0, 0, 0)).2.2.2.2.2.2.1))))) then
                                            some (Sum.inr false)
                                          else
                                            bif !decide (Int.ofNat (List.length o_7.1) = Int.ofNat (List.length t)) then
                                              some (Sum.inr false)
                                            else
                                              (feluccalaw06_ContactsRight_L1 k (t, o, a, y6, (List.getD o (Int.toNat y6) (0, 0, 0, 0, 0, 0, 0, 0)).2.2.2.2.2.2.2, o_7.1, 0)).bind fun o_23 =>
                                                match o_23 with
                                                | .inl o_24 =>
                                                  feluccalaw06_ContactsRight_L0 k (o_24.2.2.2, o_24.1, o_24.2.1, w64 (o_24.2.2.1 + 1))
                                                | .inr o_24 =>
                                                  some (Sum.inr o_24)
                                        else
                                          (feluccalaw06_ContactsRight_L1 k (t, o, a, y6, (List.getD o (Int.toNat y6) (0, 0, 0, 0, 0, 0, 0, 0)).2.2.2.2.2.2.2, o_7.1, 0)).bind fun o_21 =>
                                            match o_21 with
                                            | .inl o_22 =>
                                              feluccalaw06_ContactsRight_L0 k (o_22.2.2.2, o_22.1, o_22.2.1, w64 (o_22.2.2.1 + 1))
                                            | .inr o_22 =>
                                              some (Sum.inr o_22)
                                  else
                                    (feluccalaw06_ContactsRight_L1 k (t, o, a, y6, (List.getD o (Int.toNat y6) (0, 0, 0, 0, 0, 0, 0, 0)).2.2.2.2.2.2.2, o_7.1, 0)).bind fun o_18 =>
                                      match o_18 with
                                      | .inl o_19 =>
                                        feluccalaw06_ContactsRight_L0 k (o_19.2.2.2, o_19.1, o_19.2.1, w64 (o_19.2.2.1 + 1))
                                      | .inr o_19 =>
                                        some (Sum.inr o_19)
                                else
                                  some (Sum.inr false)
                            else
                              bif decide (o_7.2 = 0) then
                                bif decide ((List.getD o (Int.toNat y6) (0, 0, 0, 0, 0, 0, 0, 0)).1 = 1) then
                                  some (Sum.inr false)
                                else
                                  bif decide ((List.getD o (Int.toNat y6) (0, 0, 0, 0, 0, 0, 0, 0)).1 = 2) then
                                    some (Sum.inr false)
                                  else
                                    bif decide ((List.getD o (Int.toNat y6) (0, 0, 0, 0, 0, 0, 0, 0)).1 = 3) then
                                      bif !(o_10.1.1 == o_8.1.1 && (o_10.1.2.1 == o_8.1.2.1 && (o_10.1.2.2.1 == o_8.1.2.2.1 && (o_10.1.2.2.2.1 == o_8.1.2.2.2.1 && (o_10.1.2.2.2.2.1 == o_8.1.2.2.2.2.1 && o_10.1.2.2.2.2.2 == (List.getD o (Int.toNat y6) (0, 0, 0, 0, 0, 0, 0, 0)).2.2.2.2.2.2.1))))) then
                                        some (Sum.inr false)
                                      else
                                        bif !decide (Int.ofNat (List.length o_7.1) = Int.ofNat (List.length t)) then
                                          some (Sum.inr false)
                                        else
                                          (feluccalaw06_ContactsRight_L1 k (t, o, a, y6, (List.getD o (Int.toNat y6) (0, 0, 0, 0, 0, 0, 0, 0)).2.2.2.2.2.2.2, o_7.1, 0)).bind fun o_21 =>
                                            match o_21 with
                                            | .inl o_22 =>
                                              feluccalaw06_ContactsRight_L0 k (o_22.2.2.2, o_22.1, o_22.2.1, w64 (o_22.2.2.1 + 1))
                                            | .inr o_22 =>
                                              some (Sum.inr o_22)
                                    else
                                      (feluccalaw06_ContactsRight_L1 k (t, o, a, y6, (List.getD o (Int.toNat y6) (0, 0, 0, 0, 0, 0, 0, 0)).2.2.2.2.2.2.2, o_7.1, 0)).bind fun o_19 =>
                                        match o_19 with
                                        | .inl o_20 =>
                                          feluccalaw06_ContactsRight_L0 k (o_20.2.2.2, o_20.1, o_20.2.1, w64 (o_20.2.2.1 + 1))
                                        | .inr o_20 =>
                                          some (Sum.inr o_20)
                              else
                                (feluccalaw06_ContactsRight_L1 k (t, o, a, y6, (List.getD o (Int.toNat y6) (0, 0, 0, 0, 0, 0, 0, 0)).2.2.2.2.2.2.2, o_7.1, 0)).bind fun o_16 =>
                                  match o_16 with
                                  | .inl o_17 =>
                                    feluccalaw06_ContactsRight_L0 k (o_17.2.2.2, o_17.1, o_17.2.1, w64 (o_17.2.2.1 + 1))
                                  | .inr o_17 =>
                                    some (Sum.inr o_17)
                          else
                            some (Sum.inr false)
                      else
                        (contacts_Right k o_7.1).bind fun o_12 =>
                          bif o_12 then
                            bif !decide (o_7.2 = 0) then
                              (contacts_Same k (o_7.1, t)).bind fun o_15 =>
                                bif o_15 then
                                  bif decide (o_7.2 = 0) then
                                    bif decide ((List.getD o (Int.toNat y6) (0, 0, 0, 0, 0, 0, 0, 0)).1 = 1) then
                                      some (Sum.inr false)
                                    else
                                      bif decide ((List.getD o (Int.toNat y6) (0, 0, 0, 0, 0, 0, 0, 0)).1 = 2) then
                                        bif !decide (Int.ofNat (List.length o_7.1) = w64 (Int.ofNat (List.length t) - 1)) then
                                          some (Sum.inr false)
                                        else
                                          bif decide ((List.getD o (Int.toNat y6) (0, 0, 0, 0, 0, 0, 0, 0)).1 = 3) then
                                            bif !(o_10.1.1 == o_8.1.1 && (o_10.1.2.1 == o_8.1.2.1 && (o_10.1.2.2.1 == o_8.1.2.2.1 && (o_10.1.2.2.2.1 == o_8.1.2.2.2.1 && (o_10.1.2.2.2.2.1 == o_8.1.2.2.2.2.1 && o_10.1.2.2.2.2.2 == (List.getD o (Int.toNat y6) (0, 0, 0, 0, 0, 0, 0, 0)).2.2.2.2.2.2.1))))) then
                                              some (Sum.inr false)
                                            else
                                              bif !decide (Int.ofNat (List.length o_7.1) = Int.ofNat (List.length t)) then
                                                some (Sum.inr false)
                                              else
                                                (feluccalaw06_ContactsRight_L1 k (t, o, a, y6, (List.getD o (Int.toNat y6) (0, 0, 0, 0, 0, 0, 0, 0)).2.2.2.2.2.2.2, o_7.1, 0)).bind fun o_24 =>
                                                  match o_24 with
                                                  | .inl o_25 =>
                                                    feluccalaw06_ContactsRight_L0 k (o_25.2.2.2, o_25.1, o_25.2.1, w64 (o_25.2.2.1 + 1))
                                                  | .inr o_25 =>
                                                    some (Sum.inr o_25)
                                          else
                                            (feluccalaw06_ContactsRight_L1 k (t, o, a, y6, (List.getD o (Int.toNat y6) (0, 0, 0, 0, 0, 0, 0, 0)).2.2.2.2.2.2.2, o_7.1, 0)).bind fun o_22 =>
                                              match o_22 with
                                              | .inl o_23 =>
                                                feluccalaw06_ContactsRight_L0 k (o_23.2.2.2, o_23.1, o_23.2.1, w64 (o_23.2.2.1 + 1))
                                              | .inr o_23 =>
                                                some (Sum.inr o_23)
                                      else
                                        bif decide ((List.getD o (Int.toNat y6) (0, 0, 0, 0, 0, 0, 0, 0)).1 = 3) then
                                          bif !(o_10.1.1 == o_8.1.1 && (o_10.1.2.1 == o_8.1.2.1 && (o_10.1.2.2.1 == o_8.1.2.2.1 && (o_10.1.2.2.2.1 == o_8.1.2.2.2.1 && (o_10.1.2.2.2.2.1 == o_8.1.2.2.2.2.1 && o_10.1.2.2.2.2.2 == (List.getD o (Int.toNat y6) (0, 0, 0, 0, 0, 0, 0, 0)).2.2.2.2.2.2.1))))) then
                                            some (Sum.inr false)
                                          else
                                            bif !decide (Int.ofNat (List.length o_7.1) = Int.ofNat (List.length t)) then
                                              some (Sum.inr false)
                                            else
                                              (feluccalaw06_ContactsRight_L1 k (t, o, a, y6, (List.getD o (Int.toNat y6) (0, 0, 0, 0, 0, 0, 0, 0)).2.2.2.2.2.2.2, o_7.1, 0)).bind fun o_23 =>
                                                match o_23 with
                                                | .inl o_24 =>
                                                  feluccalaw06_ContactsRight_L0 k (o_24.2.2.2, o_24.1, o_24.2.1, w64 (o_24.2.2.1 + 1))
                                                | .inr o_24 =>
                                                  some (Sum.inr o_24)
                                        else
                                          (feluccalaw06_ContactsRight_L1 k (t, o, a, y6, (List.getD o (Int.toNat y6) (0, 0, 0, 0, 0, 0, 0, 0)).2.2.2.2.2.2.2, o_7.1, 0)).bind fun o_21 =>
                                            match o_21 with
                                            | .inl o_22 =>
                                              feluccalaw06_ContactsRight_L0 k (o_22.2.2.2, o_22.1, o_22.2.1, w64 (o_22.2.2.1 + 1))
                                            | .inr o_22 =>
                                              some (Sum.inr o_22)
                                  else
                                    (feluccalaw06_ContactsRight_L1 k (t, o, a, y6, (List.getD o (Int.toNat y6) (0, 0, 0, 0, 0, 0, 0, 0)).2.2.2.2.2.2.2, o_7.1, 0)).bind fun o_18 =>
                                      match o_18 with
                                      | .inl o_19 =>
                                        feluccalaw06_ContactsRight_L0 k (o_19.2.2.2, o_19.1, o_19.2.1, w64 (o_19.2.2.1 + 1))
                                      | .inr o_19 =>
                                        some (Sum.inr o_19)
                                else
                                  some (Sum.inr false)
                            else
                              bif decide (o_7.2 = 0) then
                                bif decide ((List.getD o (Int.toNat y6) (0, 0, 0, 0, 0, 0, 0, 0)).1 = 1) then
                                  some (Sum.inr false)
                                else
                                  bif decide ((List.getD o (Int.toNat y6) (0, 0, 0, 0, 0, 0, 0, 0)).1 = 2) then
                                    bif !decide (Int.ofNat (List.length o_7.1) = w64 (Int.ofNat (List.length t) - 1)) then
                                      some (Sum.inr false)
                                    else
                                      bif decide ((List.getD o (Int.toNat y6) (0, 0, 0, 0, 0, 0, 0, 0)).1 = 3) then
                                        bif !(o_10.1.1 == o_8.1.1 && (o_10.1.2.1 == o_8.1.2.1 && (o_10.1.2.2.1 == o_8.1.2.2.1 && (o_10.1.2.2.2.1 == o_8.1.2.2.2.1 && (o_10.1.2.2.2.2.1 == o_8.1.2.2.2.2.1 && o_10.1.2.2.2.2.2 == (List.getD o (Int.toNat y6) (0, 0, 0, 0, 0, 0, 0, 0)).2.2.2.2.2.2.1))))) then
                                          some (Sum.inr false)
                                        else
                                          bif !decide (Int.ofNat (List.length o_7.1) = Int.ofNat (List.length t)) then
                                            some (Sum.inr false)
                                          else
                                            (feluccalaw06_ContactsRight_L1 k (t, o, a, y6, (List.getD o (Int.toNat y6) (0, 0, 0, 0, 0, 0, 0, 0)).2.2.2.2.2.2.2, o_7.1, 0)).bind fun o_22 =>
                                              match o_22 with
                                              | .inl o_23 =>
                                                feluccalaw06_ContactsRight_L0 k (o_23.2.2.2, o_23.1, o_23.2.1, w64 (o_23.2.2.1 + 1))
                                              | .inr o_23 =>
                                                some (Sum.inr o_23)
                                      else
                                        (feluccalaw06_ContactsRight_L1 k (t, o, a, y6, (List.getD o (Int.toNat y6) (0, 0, 0, 0, 0, 0, 0, 0)).2.2.2.2.2.2.2, o_7.1, 0)).bind fun o_20 =>
                                          match o_20 with
                                          | .inl o_21 =>
                                            feluccalaw06_ContactsRight_L0 k (o_21.2.2.2, o_21.1, o_21.2.1, w64 (o_21.2.2.1 + 1))
                                          | .inr o_21 =>
                                            some (Sum.inr o_21)
                                  else
                                    bif decide ((List.getD o (Int.toNat y6) (0, 0, 0, 0, 0, 0, 0, 0)).1 = 3) then
                                      bif !(o_10.1.1 == o_8.1.1 && (o_10.1.2.1 == o_8.1.2.1 && (o_10.1.2.2.1 == o_8.1.2.2.1 && (o_10.1.2.2.2.1 == o_8.1.2.2.2.1 && (o_10.1.2.2.2.2.1 == o_8.1.2.2.2.2.1 && o_10.1.2.2.2.2.2 == (List.getD o (Int.toNat y6) (0, 0, 0, 0, 0, 0, 0, 0)).2.2.2.2.2.2.1))))) then
                                        some (Sum.inr false)
                                      else
                                        bif !decide (Int.ofNat (List.length o_7.1) = Int.ofNat (List.length t)) then
                                          some (Sum.inr false)
                                        else
                                          (feluccalaw06_ContactsRight_L1 k (t, o, a, y6, (List.getD o (Int.toNat y6) (0, 0, 0, 0, 0, 0, 0, 0)).2.2.2.2.2.2.2, o_7.1, 0)).bind fun o_21 =>
                                            match o_21 with
                                            | .inl o_22 =>
                                              feluccalaw06_ContactsRight_L0 k (o_22.2.2.2, o_22.1, o_22.2.1, w64 (o_22.2.2.1 + 1))
                                            | .inr o_22 =>
                                              some (Sum.inr o_22)
                                    else
                                      (feluccalaw06_ContactsRight_L1 k (t, o, a, y6, (List.getD o (Int.toNat y6) (0, 0, 0, 0, 0, 0, 0, 0)).2.2.2.2.2.2.2, o_7.1, 0)).bind fun o_19 =>
                                        match o_19 with
                                        | .inl o_20 =>
                                          feluccalaw06_ContactsRight_L0 k (o_20.2.2.2, o_20.1, o_20.2.1, w64 (o_20.2.2.1 + 1))
                                        | .inr o_20 =>
                                          some (Sum.inr o_20)
                              else
                                (feluccalaw06_ContactsRight_L1 k (t, o, a, y6, (List.getD o (Int.toNat y6) (0, 0, 0, 0, 0, 0, 0, 0)).2.2.2.2.2.2.2, o_7.1, 0)).bind fun o_16 =>
                                  match o_16 with
                                  | .inl o_17 =>
                                    feluccalaw06_ContactsRight_L0 k (o_17.2.2.2, o_17.1, o_17.2.1, w64 (o_17.2.2.1 + 1))
                                  | .inr o_17 =>
                                    some (Sum.inr o_17)
                          else
                            some (Sum.inr false)
                  else
                    (contacts_Find k (o_7.1, (List.getD o (Int.toNat y6) (0, 0, 0, 0, 0, 0, 0, 0)).2.2.2.2.2.2.2)).bind fun o_10 =>
                      bif o_10.2 then
                        (contacts_Right k o_7.1).bind fun o_12 =>
                          bif o_12 then
                            bif !decide (o_7.2 = 0) then
                              (contacts_Same k (o_7.1, t)).bind fun o_15 =>
                                bif o_15 then
                                  bif decide (o_7.2 = 0) then
                                    bif decide ((List.getD o (Int.toNat y6) (0, 0, 0, 0, 0, 0, 0, 0)).1 = 1) then
                                      bif !(o_10.1.1 == (List.getD o (Int.toNat y6) (0, 0, 0, 0, 0, 0, 0, 0)).2.1 && (o_10.1.2.1 == (List.getD o (Int.toNat y6) (0, 0, 0, 0, 0, 0, 0, 0)).2.2.1 && (o_10.1.2.2.1 == (List.getD o (Int.toNat y6) (0, 0, 0, 0, 0, 0, 0, 0)).2.2.2.1 && (o_10.1.2.2.2.1 == (List.getD o (Int.toNat y6) (0, 0, 0, 0, 0, 0, 0, 0)).2.2.2.2.1 && (o_10.1.2.2.2.2.1 == (List.getD o (Int.toNat y6) (0, 0, 0, 0, 0, 0, 0, 0)).2.2.2.2.2.1 && o_10.1.2.2.2.2.2 == (List.getD o (Int.toNat y6) (0, 0, 0, 0, 0, 0, 0, 0)).2.2.2.2.2.2.1))))) then
                                        some (Sum.inr false)
                                      else
                                        bif !decide (Int.ofNat (List.length o_7.1) = w64 (Int.ofNat (List.length t) + 1)) then
                                          some (Sum.inr false)
                                        else
                                          bif decide ((List.getD o (Int.toNat y6) (0, 0, 0, 0, 0, 0, 0, 0)).1 = 2) then
                                            some (Sum.inr false)
                                          else
                                            bif decide ((List.getD o (Int.toNat y6) (0, 0, 0, 0, 0, 0, 0, 0)).1 = 3) then
                                              some (Sum.inr false)
                                            else
                                              (feluccalaw06_ContactsRight_L1 k (t, o, a, y6, (List.getD o (Int.toNat y6) (0, 0, 0, 0, 0, 0, 0, 0)).2.2.2.2.2.2.2, o_7.1, 0)).bind fun o_23 =>
                                                match o_23 with
                                                | .inl o_24 =>
                                                  feluccalaw06_ContactsRight_L0 k (o_24.2.2.2, o_24.1, o_24.2.1, w64 (o_24.2.2.1 + 1))
                                                | .inr o_24 =>
                                                  some (Sum.inr o_24)
                                    else
                                      bif decide ((List.getD o (Int.toNat y6) (0, 0, 0, 0, 0, 0, 0, 0)).1 = 2) then
                                        some (Sum.inr false)
                                      else
                                        bif decide ((List.getD o (Int.toNat y6) (0, 0, 0, 0, 0, 0, 0, 0)).1 = 3) then
                                          some (Sum.inr false)
                                        else
                                          (feluccalaw06_ContactsRight_L1 k (t, o, a, y6, (List.getD o (Int.toNat y6) (0, 0, 0, 0, 0, 0, 0, 0)).2.2.2.2.2.2.2, o_7.1, 0)).bind fun o_21 =>
                                            match o_21 with
                                            | .inl o_22 =>
                                              feluccalaw06_ContactsRight_L0 k (o_22.2.2.2, o_22.1, o_22.2.1, w64 (o_22.2.2.1 + 1))
                                            | .inr o_22 =>
                                              some (Sum.inr o_22)
                                  else
                                    (feluccalaw06_ContactsRight_L1 k (t, o, a, y6, (List.getD o (Int.toNat y6) (0, 0, 0, 0, 0, 0, 0, 0)).2.2.2.2.2.2.2, o_7.1, 0)).bind fun o_18 =>
                                      match o_18 with
                                      | .inl o_19 =>
                                        feluccalaw06_ContactsRight_L0 k (o_19.2.2.2, o_19.1, o_19.2.1, w64 (o_19.2.2.1 + 1))
                                      | .inr o_19 =>
                                        some (Sum.inr o_19)
                                else
                                  some (Sum.inr false)
                            else
                              bif decide (o_7.2 = 0) then
                                bif decide ((List.getD o (Int.toNat y6) (0, 0, 0, 0, 0, 0, 0, 0)).1 = 1) then
                                  bif !(o_10.1.1 == (List.getD o (Int.toNat y6) (0, 0, 0, 0, 0, 0, 0, 0)).2.1 && (o_10.1.2.1 == (List.getD o (Int.toNat y6) (0, 0, 0, 0, 0, 0, 0, 0)).2.2.1 && (o_10.1.2.2.1 == (List.getD o (Int.toNat y6) (0, 0, 0, 0, 0, 0, 0, 0)).2.2.2.1 && (o_10.1.2.2.2.1 == (List.getD o (Int.toNat y6) (0, 0, 0, 0, 0, 0, 0, 0)).2.2.2.2.1 && (o_10.1.2.2.2.2.1 == (List.getD o (Int.toNat y6) (0, 0, 0, 0, 0, 0, 0, 0)).2.2.2.2.2.1 && o_10.1.2.2.2.2.2 == (List.getD o (Int.toNat y6) (0, 0, 0, 0, 0, 0, 0, 0)).2.2.2.2.2.2.1))))) then
                                    some (Sum.inr false)
                                  else
                                    bif !decide (Int.ofNat (List.length o_7.1) = w64 (Int.ofNat (List.length t) + 1)) then
                                      some (Sum.inr false)
                                    else
                                      bif decide ((List.getD o (Int.toNat y6) (0, 0, 0, 0, 0, 0, 0, 0)).1 = 2) then
                                        some (Sum.inr false)
                                      else
                                        bif decide ((List.getD o (Int.toNat y6) (0, 0, 0, 0, 0, 0, 0, 0)).1 = 3) then
                                          some (Sum.inr false)
                                        else
                                          (feluccalaw06_ContactsRight_L1 k (t, o, a, y6, (List.getD o (Int.toNat y6) (0, 0, 0, 0, 0, 0, 0, 0)).2.2.2.2.2.2.2, o_7.1, 0)).bind fun o_21 =>
                                            match o_21 with
                                            | .inl o_22 =>
                                              feluccalaw06_ContactsRight_L0 k (o_22.2.2.2, o_22.1, o_22.2.1, w64 (o_22.2.2.1 + 1))
                                            | .inr o_22 =>
                                              some (Sum.inr o_22)
                                else
                                  bif decide ((List.getD o (Int.toNat y6) (0, 0, 0, 0, 0, 0, 0, 0)).1 = 2) then
                                    some (Sum.inr false)
                                  else
                                    bif decide ((List.getD o (Int.toNat y6) (0, 0, 0, 0, 0, 0, 0, 0)).1 = 3) then
                                      some (Sum.inr false)
                                    else
                                      (feluccalaw06_ContactsRight_L1 k (t, o, a, y6, (List.getD o (Int.toNat y6) (0, 0, 0, 0, 0, 0, 0, 0)).2.2.2.2.2.2.2, o_7.1, 0)).bind fun o_19 =>
                                        match o_19 with
                                        | .inl o_20 =>
                                          feluccalaw06_ContactsRight_L0 k (o_20.2.2.2, o_20.1, o_20.2.1, w64 (o_20.2.2.1 + 1))
                                        | .inr o_20 =>
                                          some (Sum.inr o_20)
                              else
                                (feluccalaw06_ContactsRight_L1 k (t, o, a, y6, (List.getD o (Int.toNat y6) (0, 0, 0, 0, 0, 0, 0, 0)).2.2.2.2.2.2.2, o_7.1, 0)).bind fun o_16 =>
                                  match o_16 with
                                  | .inl o_17 =>
                                    feluccalaw06_ContactsRight_L0 k (o_17.2.2.2, o_17.1, o_17.2.1, w64 (o_17.2.2.1 + 1))
                                  | .inr o_17 =>
                                    some (Sum.inr o_17)
                          else
                            some (Sum.inr false)
                      else
                        (contacts_Right k o_7.1).bind fun o_12 =>
                          bif o_12 then
                            bif !decide (o_7.2 = 0) then
                              (contacts_Same k (o_7.1, t)).bind fun o_15 =>
                                bif o_15 then
                                  bif decide (o_7.2 = 0) then
                                    bif decide ((List.getD o (Int.toNat y6) (0, 0, 0, 0, 0, 0, 0, 0)).1 = 1) then
                                      bif !(o_10.1.1 == (List.getD o (Int.toNat y6) (0, 0, 0, 0, 0, 0, 0, 0)).2.1 && (o_10.1.2.1 == (List.getD o (Int.toNat y6) (0, 0, 0, 0, 0, 0, 0, 0)).2.2.1 && (o_10.1.2.2.1 == (List.getD o (Int.toNat y6) (0, 0, 0, 0, 0, 0, 0, 0)).2.2.2.1 && (o_10.1.2.2.2.1 == (List.getD o (Int.toNat y6) (0, 0, 0, 0, 0, 0, 0, 0)).2.2.2.2.1 && (o_10.1.2.2.2.2.1 == (List.getD o (Int.toNat y6) (0, 0, 0, 0, 0, 0, 0, 0)).2.2.2.2.2.1 && o_10.1.2.2.2.2.2 == (List.getD o (Int.toNat y6) (0, 0, 0, 0, 0, 0, 0, 0)).2.2.2.2.2.2.1))))) then
                                        some (Sum.inr false)
                                      else
                                        bif !decide (Int.ofNat (List.length o_7.1) = w64 (Int.ofNat (List.length t) + 1)) then
                                          some (Sum.inr false)
                                        else
                                          bif decide ((List.getD o (Int.toNat y6) (0, 0, 0, 0, 0, 0, 0, 0)).1 = 2) then
                                            some (Sum.inr false)
                                          else
                                            bif decide ((List.getD o (Int.toNat y6) (0, 0, 0, 0, 0, 0, 0, 0)).1 = 3) then
                                              some (Sum.inr false)
                                            else
                                              (feluccalaw06_ContactsRight_L1 k (t, o, a, y6, (List.getD o (Int.toNat y6) (0, 0, 0, 0, 0, 0, 0, 0)).2.2.2.2.2.2.2, o_7.1, 0)).bind fun o_23 =>
                                                match o_23 with
                                                | .inl o_24 =>
                                                  feluccalaw06_ContactsRight_L0 k (o_24.2.2.2, o_24.1, o_24.2.1, w64 (o_24.2.2.1 + 1))
                                                | .inr o_24 =>
                                                  some (Sum.inr o_24)
                                    else
                                      bif decide ((List.getD o (Int.toNat y6) (0, 0, 0, 0, 0, 0, 0, 0)).1 = 2) then
                                        some (Sum.inr false)
                                      else
                                        bif decide ((List.getD o (Int.toNat y6) (0, 0, 0, 0, 0, 0, 0, 0)).1 = 3) then
                                          some (Sum.inr false)
                                        else
                                          (feluccalaw06_ContactsRight_L1 k (t, o, a, y6, (List.getD o (Int.toNat y6) (0, 0, 0, 0, 0, 0, 0, 0)).2.2.2.2.2.2.2, o_7.1, 0)).bind fun o_21 =>
                                            match o_21 with
                                            | .inl o_22 =>
                                              feluccalaw06_ContactsRight_L0 k (o_22.2.2.2, o_22.1, o_22.2.1, w64 (o_22.2.2.1 + 1))
                                            | .inr o_22 =>
                                              some (Sum.inr o_22)
                                  else
                                    (feluccalaw06_ContactsRight_L1 k (t, o, a, y6, (List.getD o (Int.toNat y6) (0, 0, 0, 0, 0, 0, 0, 0)).2.2.2.2.2.2.2, o_7.1, 0)).bind fun o_18 =>
                                      match o_18 with
                                      | .inl o_19 =>
                                        feluccalaw06_ContactsRight_L0 k (o_19.2.2.2, o_19.1, o_19.2.1, w64 (o_19.2.2.1 + 1))
                                      | .inr o_19 =>
                                        some (Sum.inr o_19)
                                else
                                  some (Sum.inr false)
                            else
                              bif decide (o_7.2 = 0) then
                                bif decide ((List.getD o (Int.toNat y6) (0, 0, 0, 0, 0, 0, 0, 0)).1 = 1) then
                                  bif !(o_10.1.1 == (List.getD o (Int.toNat y6) (0, 0, 0, 0, 0, 0, 0, 0)).2.1 && (o_10.1.2.1 == (List.getD o (Int.toNat y6) (0, 0, 0, 0, 0, 0, 0, 0)).2.2.1 && (o_10.1.2.2.1 == (List.getD o (Int.toNat y6) (0, 0, 0, 0, 0, 0, 0, 0)).2.2.2.1 && (o_10.1.2.2.2.1 == (List.getD o (Int.toNat y6) (0, 0, 0, 0, 0, 0, 0, 0)).2.2.2.2.1 && (o_10.1.2.2.2.2.1 == (List.getD o (Int.toNat y6) (0, 0, 0, 0, 0, 0, 0, 0)).2.2.2.2.2.1 && o_10.1.2.2.2.2.2 == (List.getD o (Int.toNat y6) (0, 0, 0, 0, 0, 0, 0, 0)).2.2.2.2.2.2.1))))) then
                                    some (Sum.inr false)
                                  else
                                    bif !decide (Int.ofNat (List.length o_7.1) = w64 (Int.ofNat (List.length t) + 1)) then
                                      some (Sum.inr false)
                                    else
                                      bif decide ((List.getD o (Int.toNat y6) (0, 0, 0, 0, 0, 0, 0, 0)).1 = 2) then
                                        some (Sum.inr false)
                                      else
                                        bif decide ((List.getD o (Int.toNat y6) (0, 0, 0, 0, 0, 0, 0, 0)).1 = 3) then
                                          some (Sum.inr false)
                                        else
                                          (feluccalaw06_ContactsRight_L1 k (t, o, a, y6, (List.getD o (Int.toNat y6) (0, 0, 0, 0, 0, 0, 0, 0)).2.2.2.2.2.2.2, o_7.1, 0)).bind fun o_21 =>
                                            match o_21 with
                                            | .inl o_22 =>
                                              feluccalaw06_ContactsRight_L0 k (o_22.2.2.2, o_22.1, o_22.2.1, w64 (o_22.2.2.1 + 1))
                                            | .inr o_22 =>
                                              some (Sum.inr o_22)
                                else
                                  bif decide ((List.getD o (Int.toNat y6) (0, 0, 0, 0, 0, 0, 0, 0)).1 = 2) then
                                    some (Sum.inr false)
                                  else
                                    bif decide ((List.getD o (Int.toNat y6) (0, 0, 0, 0, 0, 0, 0, 0)).1 = 3) then
                                      some (Sum.inr false)
                                    else
                                      (feluccalaw06_ContactsRight_L1 k (t, o, a, y6, (List.getD o (Int.toNat y6) (0, 0, 0, 0, 0, 0, 0, 0)).2.2.2.2.2.2.2, o_7.1, 0)).bind fun o_19 =>
                                        match o_19 with
                                        | .inl o_20 =>
                                          feluccalaw06_ContactsRight_L0 k (o_20.2.2.2, o_20.1, o_20.2.1, w64 (o_20.2.2.1 + 1))
                                        | .inr o_20 =>
                                          some (Sum.inr o_20)
                              else
                                (feluccalaw06_ContactsRight_L1 k (t, o, a, y6, (List.getD o (Int.toNat y6) (0, 0, 0, 0, 0, 0, 0, 0)).2.2.2.2.2.2.2, o_7.1, 0)).bind fun o_16 =>
                                  match o_16 with
                                  | .inl o_17 =>
                                    feluccalaw06_ContactsRight_L0 k (o_17.2.2.2, o_17.1, o_17.2.1, w64 (o_17.2.2.1 + 1))
                                  | .inr o_17 =>
                                    some (Sum.inr o_17)
                          else
                            some (Sum.inr false)
            else
              (contacts_Expire k (t, (List.getD o (Int.toNat y6) (0, 0, 0, 0, 0, 0, 0, 0)).2.2.2.2.2.2.2)).bind fun o_7 =>
                (contacts_Right k o_7.1).bind fun o_8 =>
                  bif o_8 then
                    bif !decide (w64 (Int.ofNat (List.length o_7.1) + Int.ofNat (List.length o_7.2)) = Int.ofNat (List.length t)) then
                      some (Sum.inr false)
                    else
                      feluccalaw06_ContactsRight_L0 k (o_7.1, o, a, w64 (y6 + 1))
                  else
                    some (Sum.inr false)
      else
        none
    else
      none
  else
    some (Sum.inl a)
def feluccalaw06_ContactsRight (k : Nat) : ((List T28) × (List T30)) → Option (Bool) := fun (t, o) =>
  (feluccalaw06_small k ()).bind fun o_1 =>
    bif o_1 then
      bif decide (50 < Int.ofNat (List.length t)) then
        some (true)
      else
        bif decide (50 < Int.ofNat (List.length o)) then
          some (true)
        else
          (contacts_Right k t).bind fun o_5 =>
            bif o_5 then
              (feluccalaw06_ContactsRight_L0 k (t, o, true, 0)).bind fun o_7 =>
                match o_7 with
                | .inl o_8 =>
                  bif o_8 then
                    some (true)
                  else
                    some (false)
                | .inr o_8 =>
                  some (o_8)
            else
              some (true)
    else
      bif decide (50 < Int.ofNat (List.length t)) then
        some (false)
      else
        bif decide (50 < Int.ofNat (List.length o)) then
          some (false)
        else
          (contacts_Right k t).bind fun o_5 =>
            bif o_5 then
              (feluccalaw06_ContactsRight_L0 k (t, o, false, 0)).bind fun o_7 =>
                match o_7 with
                | .inl o_8 =>
                  bif o_8 then
                    some (true)
                  else
                    some (false)
                | .inr o_8 =>
                  some (o_8)
            else
              some (false)
noncomputable def feluccalaw06_ContactsRight_X : Cx Try.prog [.one (.sc (.bool))] := ⟨fun k => ⟨[feluccalaw06_small_e k, contacts_Right_e k, contacts_Same_e k, contacts_Add_e k, contacts_Delete_e k, contacts_Change_e k, contacts_Expire_e k, contacts_Find_e k], []⟩, Try.f4.ntmps, Try.f4.results, [some ⟨0, [(0, .one (.ro kT28)), (1, .one (.ro kT30)), (5, .one (.sc (.bool))), (6, .one (.sc (.int .i64)))], [(5, .one (.sc (.bool)))], feluccalaw06_ContactsRight_L0⟩, some ⟨3, [(0, .one (.ro kT28)), (1, .one (.ro kT30)), (5, .one (.sc (.bool))), (6, .one (.sc (.int .i64))), (8, .one (.sc (.int .i64))), (9, .one (.ro kT28)), (18, .one (.sc (.int .i64)))], [(1, .one (.ro kT30)), (5, .one (.sc (.bool))), (6, .one (.sc (.int .i64))), (9, .one (.ro kT28))], feluccalaw06_ContactsRight_L1⟩]⟩
theorem feluccalaw06_ContactsRight_L1_eq (k : Nat) (x : (List T28) × (List T30) × Bool × Int × Int × (List T28) × Int) : feluccalaw06_ContactsRight_L1 (k + 1) x = roundF feluccalaw06_ContactsRight_X k ⟨3, [(0, .one (.ro kT28)), (1, .one (.ro kT30)), (5, .one (.sc (.bool))), (6, .one (.sc (.int .i64))), (8, .one (.sc (.int .i64))), (9, .one (.ro kT28)), (18, .one (.sc (.int .i64)))], [(1, .one (.ro kT30)), (5, .one (.sc (.bool))), (6, .one (.sc (.int .i64))), (9, .one (.ro kT28))], feluccalaw06_ContactsRight_L1⟩ 1 (lp feluccalaw06_ContactsRight_c 1) x := by kernel_rfl
theorem feluccalaw06_ContactsRight_L0_eq (k : Nat) (x : (List T28) × (List T30) × Bool × Int) : feluccalaw06_ContactsRight_L0 (k + 1) x = roundF feluccalaw06_ContactsRight_X k ⟨0, [(0, .one (.ro kT28)), (1, .one (.ro kT30)), (5, .one (.sc (.bool))), (6, .one (.sc (.int .i64)))], [(5, .one (.sc (.bool)))], feluccalaw06_ContactsRight_L0⟩ 0 (lp feluccalaw06_ContactsRight_c 0) x := by kernel_rfl
theorem feluccalaw06_ContactsRight_eq (k : Nat) (x : (List T28) × (List T30)) : feluccalaw06_ContactsRight k x = runF feluccalaw06_ContactsRight_X k feluccalaw06_ContactsRight_c [.one (.row 28 kT28), .one (.row 30 kT30)] x := by kernel_rfl
noncomputable def feluccalaw06_ContactsRight_e (k : Nat) : Ent Try.prog := ⟨4, [.one (.row 28 kT28), .one (.row 30 kT30)], [.one (.sc (.bool))], feluccalaw06_ContactsRight k, calls_of (X := feluccalaw06_ContactsRight_X) (k := k) (c := feluccalaw06_ContactsRight_c) Try.func4 (by kernel_rfl) (by kernel_rfl) (by kernel_rfl) (LoopEqs.all (show LoopEqs feluccalaw06_ContactsRight_X feluccalaw06_ContactsRight_c feluccalaw06_ContactsRight_X.L 0 from ⟨⟨fun _ => rfl, fun k x => feluccalaw06_ContactsRight_L0_eq k x⟩, ⟨⟨fun _ => rfl, fun k x => feluccalaw06_ContactsRight_L1_eq k x⟩, trivial⟩⟩)) (fun x => feluccalaw06_ContactsRight_eq k x), fun _ _ => by kernel_rfl⟩
/-! felucca/feluccalaw06.ContactsTells -/
noncomputable def feluccalaw06_ContactsTells_c : Code := Try.f3.body.getD .skip
def feluccalaw06_ContactsTells_L1 : Nat → ((List T30) × Bool × (List T28) × Int × (List T28) × Int) → Option (((List T30) × Bool × (List T28) × Int) ⊕ (Bool))
  | 0, _ => none
  | k + 1, (o, t7, t8, t9, t12, t25) =>
  bif decide (t25 < Int.ofNat (List.length t12)) then
    bif decide (0 ≤ t25) then
      bif decide (t25 < Int.ofNat (List.length t12)) then
        feluccalaw06_ContactsTells_L1 k (o, t7, t8, t9, List.set t12 (Int.toNat t25) (-7, (List.getD t12 (Int.toNat t25) (0, 0, 0, 0, 0, 0)).2), w64 (t25 + 1))
      else
        none
    else
      none
  else
    some (Sum.inl (o, t7, t8, t9))
def feluccalaw06_ContactsTells_L0 : Nat → ((List T30) × Bool × (List T28) × Int) → Option ((Bool) ⊕ (Bool))
  | 0, _ => none
  | k + 1, (o, t7, t8, t9) =>
  bif decide (t9 < Int.ofNat (List.length o)) then
    bif decide (0 ≤ t9) then
      bif decide (t9 < Int.ofNat (List.length o)) then
        (feluccaref06_Copy k t8).bind fun o_4 =>
          bif decide ((List.getD o (Int.toNat t9) (0, 0, 0, 0, 0, 0, 0, 0)).1 = 1) then
            (contacts_Add k (t8, (List.getD o (Int.toNat t9) (0, 0, 0, 0, 0, 0, 0, 0)).2.1, (List.getD o (Int.toNat t9) (0, 0, 0, 0, 0, 0, 0, 0)).2.2.1, (List.getD o (Int.toNat t9) (0, 0, 0, 0, 0, 0, 0, 0)).2.2.2.1, (List.getD o (Int.toNat t9) (0, 0, 0, 0, 0, 0, 0, 0)).2.2.2.2.1, (List.getD o (Int.toNat t9) (0, 0, 0, 0, 0, 0, 0, 0)).2.2.2.2.2.1, (List.getD o (Int.toNat t9) (0, 0, 0, 0, 0, 0, 0, 0)).2.2.2.2.2.2.1)).bind fun o_6 =>
              (feluccaref06_Add k (t8, (List.getD o (Int.toNat t9) (0, 0, 0, 0, 0, 0, 0, 0)).2.1, (List.getD o (Int.toNat t9) (0, 0, 0, 0, 0, 0, 0, 0)).2.2.1, (List.getD o (Int.toNat t9) (0, 0, 0, 0, 0, 0, 0, 0)).2.2.2.1, (List.getD o (Int.toNat t9) (0, 0, 0, 0, 0, 0, 0, 0)).2.2.2.2.1, (List.getD o (Int.toNat t9) (0, 0, 0, 0, 0, 0, 0, 0)).2.2.2.2.2.1, (List.getD o (Int.toNat t9) (0, 0, 0, 0, 0, 0, 0, 0)).2.2.2.2.2.2.1)).bind fun o_7 =>
                (contacts_Find k (o_6.1, (List.getD o (Int.toNat t9) (0, 0, 0, 0, 0, 0, 0, 0)).2.2.2.2.2.2.2)).bind fun o_8 =>
                  bif o_8.2 then
                    (feluccaref06_Find k (o_7.1, (List.getD o (Int.toNat t9) (0, 0, 0, 0, 0, 0, 0, 0)).2.2.2.2.2.2.2)).bind fun o_10 =>
                      bif o_10.2 then
                        bif !decide (o_6.2 = o_7.2) then
                          some (Sum.inr false)
                        else
                          (feluccaref06_Same k (o_6.1, o_7.1)).bind fun o_13 =>
                            bif o_13 then
                              bif !(o_8.1.1 == o_10.1.1 && (o_8.1.2.1 == o_10.1.2.1 && (o_8.1.2.2.1 == o_10.1.2.2.1 && (o_8.1.2.2.2.1 == o_10.1.2.2.2.1 && (o_8.1.2.2.2.2.1 == o_10.1.2.2.2.2.1 && o_8.1.2.2.2.2.2 == o_10.1.2.2.2.2.2))))) then
                                some (Sum.inr false)
                              else
                                (feluccaref06_Same k (o_4, t8)).bind fun o_16 =>
                                  bif o_16 then
                                    (contacts_Compare k (((List.getD o (Int.toNat t9) (0, 0, 0, 0, 0, 0, 0, 0)).2.1, (List.getD o (Int.toNat t9) (0, 0, 0, 0, 0, 0, 0, 0)).2.2.1, (List.getD o (Int.toNat t9) (0, 0, 0, 0, 0, 0, 0, 0)).2.2.2.1, (List.getD o (Int.toNat t9) (0, 0, 0, 0, 0, 0, 0, 0)).2.2.2.2.1, (List.getD o (Int.toNat t9) (0, 0, 0, 0, 0, 0, 0, 0)).2.2.2.2.2.1, (List.getD o (Int.toNat t9) (0, 0, 0, 0, 0, 0, 0, 0)).2.2.2.2.2.2.1), o_8.1)).bind fun o_18 =>
                                      (feluccaref06_Compare k (((List.getD o (Int.toNat t9) (0, 0, 0, 0, 0, 0, 0, 0)).2.1, (List.getD o (Int.toNat t9) (0, 0, 0, 0, 0, 0, 0, 0)).2.2.1, (List.getD o (Int.toNat t9) (0, 0, 0, 0, 0, 0, 0, 0)).2.2.2.1, (List.getD o (Int.toNat t9) (0, 0, 0, 0, 0, 0, 0, 0)).2.2.2.2.1, (List.getD o (Int.toNat t9) (0, 0, 0, 0, 0, 0, 0, 0)).2.2.2.2.2.1, (List.getD o (Int.toNat t9) (0, 0, 0, 0, 0, 0, 0, 0)).2.2.2.2.2.2.1), o_10.1)).bind fun o_19 =>
                                        bif !decide (o_18 = o_19) then
                                          some (Sum.inr false)
                                        else
                                          (feluccaref06_Copy k o_6.1).bind fun o_21 =>
                                            (feluccalaw06_ContactsTells_L1 k (o, t7, o_21, t9, o_6.1, 0)).bind fun o_22 =>
                                              match o_22 with
                                              | .inl o_23 =>
                                                feluccalaw06_ContactsTells_L0 k (o_23.1, o_23.2.1, o_23.2.2.1, w64 (o_23.2.2.2 + 1))
                                              | .inr o_23 =>
                                                some (Sum.inr o_23)
                                  else
                                    some (Sum.inr false)
                            else
                              some (Sum.inr false)
                      else
                        bif !decide (o_6.2 = o_7.2) then
                          some (Sum.inr false)
                        else
                          (feluccaref06_Same k (o_6.1, o_7.1)).bind fun o_13 =>
                            bif o_13 then
                              bif !(o_8.1.1 == o_10.1.1 && (o_8.1.2.1 == o_10.1.2.1 && (o_8.1.2.2.1 == o_10.1.2.2.1 && (o_8.1.2.2.2.1 == o_10.1.2.2.2.1 && (o_8.1.2.2.2.2.1 == o_10.1.2.2.2.2.1 && o_8.1.2.2.2.2.2 == o_10.1.2.2.2.2.2))))) then
                                some (Sum.inr false)
                              else
                                some (Sum.inr false)
                            else
                              some (Sum.inr false)
                  else
                    (feluccaref06_Find k (o_7.1, (List.getD o (Int.toNat t9) (0, 0, 0, 0, 0, 0, 0, 0)).2.2.2.2.2.2.2)).bind fun o_10 =>
                      bif o_10.2 then
                        bif !decide (o_6.2 = o_7.2) then
                          some (Sum.inr false)
                        else
                          (feluccaref06_Same k (o_6.1, o_7.1)).bind fun o_13 =>
                            bif o_13 then
                              bif !(o_8.1.1 == o_10.1.1 && (o_8.1.2.1 == o_10.1.2.1 && (o_8.1.2.2.1 == o_10.1.2.2.1 && (o_8.1.2.2.2.1 == o_10.1.2.2.2.1 && (o_8.1.2.2.2.2.1 == o_10.1.2.2.2.2.1 && o_8.1.2.2.2.2.2 == o_10.1.2.2.2.2.2))))) then
                                some (Sum.inr false)
                              else
                                some (Sum.inr false)
                            else
                              some (Sum.inr false)
                      else
                        bif !decide (o_6.2 = o_7.2) then
                          some (Sum.inr false)
                        else
                          (feluccaref06_Same k (o_6.1, o_7.1)).bind fun o_13 =>
                            bif o_13 then
                              bif !(o_8.1.1 == o_10.1.1 && (o_8.1.2.1 == o_10.1.2.1 && (o_8.1.2.2.1 == o_10.1.2.2.1 && (o_8.1.2.2.2.1 == o_10.1.2.2.2.1 && (o_8.1.2.2.2.2.1 == o_10.1.2.2.2.2.1 && o_8.1.2.2.2.2.2 == o_10.1.2.2.2.2.2))))) then
                                some (Sum.inr false)
                              else
                                (feluccaref06_Same k (o_4, t8)).bind fun o_16 =>
                                  bif o_16 then
                                    (contacts_Compare k (((List.getD o (Int.toNat t9) (0, 0, 0, 0, 0, 0, 0, 0)).2.1, (List.getD o (Int.toNat t9) (0, 0, 0, 0, 0, 0, 0, 0)).2.2.1, (List.getD o (Int.toNat t9) (0, 0, 0, 0, 0, 0, 0, 0)).2.2.2.1, (List.getD o (Int.toNat t9) (0, 0, 0, 0, 0, 0, 0, 0)).2.2.2.2.1, (List.getD o (Int.toNat t9) (0, 0, 0, 0, 0, 0, 0, 0)).2.2.2.2.2.1, (List.getD o (Int.toNat t9) (0, 0, 0, 0, 0, 0, 0, 0)).2.2.2.2.2.2.1), o_8.1)).bind fun o_18 =>
                                      (feluccaref06_Compare k (((List.getD o (Int.toNat t9) (0, 0, 0, 0, 0, 0, 0, 0)).2.1, (List.getD o (Int.toNat t9) (0, 0, 0, 0, 0, 0, 0, 0)).2.2.1, (List.getD o (Int.toNat t9) (0, 0, 0, 0, 0, 0, 0, 0)).2.2.2.1, (List.getD o (Int.toNat t9) (0, 0, 0, 0, 0, 0, 0, 0)).2.2.2.2.1, (List.getD o (Int.toNat t9) (0, 0, 0, 0, 0, 0, 0, 0)).2.2.2.2.2.1, (List.getD o (Int.toNat t9) (0, 0, 0, 0, 0, 0, 0, 0)).2.2.2.2.2.2.1), o_10.1)).bind fun o_19 =>
                                        bif !decide (o_18 = o_19) then
                                          some (Sum.inr false)
                                        else
                                          (feluccaref06_Copy k o_6.1).bind fun o_21 =>
                                            (feluccalaw06_ContactsTells_L1 k (o, t7, o_21, t9, o_6.1, 0)).bind fun o_22 =>
                                              match o_22 with
                                              | .inl o_23 =>
                                                feluccalaw06_ContactsTells_L0 k (o_23.1, o_23.2.1, o_23.2.2.1, w64 (o_23.2.2.2 + 1))
                                              | .inr o_23 =>
                                                some (Sum.inr o_23)
                                  else
                                    some (Sum.inr false)
                            else
                              some (Sum.inr false)
          else
            bif decide ((List.getD o (Int.toNat t9) (0, 0, 0, 0, 0, 0, 0, 0)).1 = 2) then
              (contacts_Delete k (t8, (List.getD o (Int.toNat t9) (0, 0, 0, 0, 0, 0, 0, 0)).2.2.2.2.2.2.2)).bind fun o_7 =>
                (feluccaref06_Delete k (t8, (List.getD o (Int.toNat t9) (0, 0, 0, 0, 0, 0, 0, 0)).2.2.2.2.2.2.2)).bind fun o_8 =>
                  (contacts_Find k (o_7.1, (List.getD o (Int.toNat t9) (0, 0, 0, 0, 0, 0, 0, 0)).2.2.2.2.2.2.2)).bind fun o_9 =>
                    bif o_9.2 then
                      (feluccaref06_Find k (o_8.1, (List.getD o (Int.toNat t9) (0, 0, 0, 0, 0, 0, 0, 0)).2.2.2.2.2.2.2)).bind fun o_11 =>
                        bif o_11.2 then
                          bif !decide (o_7.2 = o_8.2) then
                            some (Sum.inr false)
                          else
                            (feluccaref06_Same k (o_7.1, o_8.1)).bind fun o_14 =>
                              bif o_14 then
                                bif !(o_9.1.1 == o_11.1.1 && (o_9.1.2.1 == o_11.1.2.1 && (o_9.1.2.2.1 == o_11.1.2.2.1 && (o_9.1.2.2.2.1 == o_11.1.2.2.2.1 && (o_9.1.2.2.2.2.1 == o_11.1.2.2.2.2.1 && o_9.1.2.2.2.2.2 == o_11.1.2.2.2.2.2))))) then
                                  some (Sum.inr false)
                                else
                                  (feluccaref06_Same k (o_4, t8)).bind fun o_17 =>
                                    bif o_17 then
                                      (contacts_Compare k (((List.getD o (Int.toNat t9) (0, 0, 0, 0, 0, 0, 0, 0)).2.1, (List.getD o (Int.toNat t9) (0, 0, 0, 0, 0, 0, 0, 0)).2.2.1, (List.getD o (Int.toNat t9) (0, 0, 0, 0, 0, 0, 0, 0)).2.2.2.1, (List.getD o (Int.toNat t9) (0, 0, 0, 0, 0, 0, 0, 0)).2.2.2.2.1, (List.getD o (Int.toNat t9) (0, 0, 0, 0, 0, 0, 0, 0)).2.2.2.2.2.1, (List.getD o (Int.toNat t9) (0, 0, 0, 0, 0, 0, 0, 0)).2.2.2.2.2.2.1), o_9.1)).bind fun o_19 =>
                                        (feluccaref06_Compare k (((List.getD o (Int.toNat t9) (0, 0, 0, 0, 0, 0, 0, 0)).2.1, (List.getD o (Int.toNat t9) (0, 0, 0, 0, 0, 0, 0, 0)).2.2.1, (List.getD o (Int.toNat t9) (0, 0, 0, 0, 0, 0, 0, 0)).2.2.2.1, (List.getD o (Int.toNat t9) (0, 0, 0, 0, 0, 0, 0, 0)).2.2.2.2.1, (List.getD o (Int.toNat t9) (0, 0, 0, 0, 0, 0, 0, 0)).2.2.2.2.2.1, (List.getD o (Int.toNat t9) (0, 0, 0, 0, 0, 0, 0, 0)).2.2.2.2.2.2.1), o_11.1)).bind fun o_20 =>
                                          bif !decide (o_19 = o_20) then
                                            some (Sum.inr false)
                                          else
                                            (feluccaref06_Copy k o_7.1).bind fun o_22 =>
                                              (feluccalaw06_ContactsTells_L1 k (o, t7, o_22, t9, o_7.1, 0)).bind fun o_23 =>
                                                match o_23 with
                                                | .inl o_24 =>
                                                  feluccalaw06_ContactsTells_L0 k (o_24.1, o_24.2.1, o_24.2.2.1, w64 (o_24.2.2.2 + 1))
                                                | .inr o_24 =>
                                                  some (Sum.inr o_24)
                                    else
                                      some (Sum.inr false)
                              else
                                some (Sum.inr false)
                        else
                          bif !decide (o_7.2 = o_8.2) then
                            some (Sum.inr false)
                          else
                            (feluccaref06_Same k (o_7.1, o_8.1)).bind fun o_14 =>
                              bif o_14 then
                                bif !(o_9.1.1 == o_11.1.1 && (o_9.1.2.1 == o_11.1.2.1 && (o_9.1.2.2.1 == o_11.1.2.2.1 && (o_9.1.2.2.2.1 == o_11.1.2.2.2.1 && (o_9.1.2.2.2.2.1 == o_11.1.2.2.2.2.1 && o_9.1.2.2.2.2.2 == o_11.1.2.2.2.2.2))))) then
                                  some (Sum.inr false)
                                else
                                  some (Sum.inr false)
                              else
                                some (Sum.inr false)
                    else
                      (feluccaref06_Find k (o_8.1, (List.getD o (Int.toNat t9) (0, 0, 0, 0, 0, 0, 0, 0)).2.2.2.2.2.2.2)).bind fun o_11 =>
                        bif o_11.2 then
                          bif !decide (o_7.2 = o_8.2) then
                            some (Sum.inr false)
                          else
                            (feluccaref06_Same k (o_7.1, o_8.1)).bind fun o_14 =>
                              bif o_14 then
                                bif !(o_9.1.1 == o_11.1.1 && (o_9.1.2.1 == o_11.1.2.1 && (o_9.1.2.2.1 == o_11.1.2.2.1 && (o_9.1.2.2.2.1 == o_11.1.2.2.2.1 && (o_9.1.2.2.2.2.1 == o_11.1.2.2.2.2.1 && o_9.1.2.2.2.2.2 == o_11.1.2.2.2.2.2))))) then
                                  some (Sum.inr false)
                                else
                                  some (Sum.inr false)
                              else
                                some (Sum.inr false)
                        else
                          bif !decide (o_7.2 = o_8.2) then
                            some (Sum.inr false)
                          else
                            (feluccaref06_Same k (o_7.1, o_8.1)).bind fun o_14 =>
                              bif o_14 then
                                bif !(o_9.1.1 == o_11.1.1 && (o_9.1.2.1 == o_11.1.2.1 && (o_9.1.2.2.1 == o_11.1.2.2.1 && (o_9.1.2.2.2.1 == o_11.1.2.2.2.1 && (o_9.1.2.2.2.2.1 == o_11.1.2.2.2.2.1 && o_9.1.2.2.2.2.2 == o_11.1.2.2.2.2.2))))) then
                                  some (Sum.inr false)
                                else
                                  (feluccaref06_Same k (o_4, t8)).bind fun o_17 =>
                                    bif o_17 then
                                      (contacts_Compare k (((List.getD o (Int.toNat t9) (0, 0, 0, 0, 0, 0, 0, 0)).2.1, (List.getD o (Int.toNat t9) (0, 0, 0, 0, 0, 0, 0, 0)).2.2.1, (List.getD o (Int.toNat t9) (0, 0, 0, 0, 0, 0, 0, 0)).2.2.2.1, (List.getD o (Int.toNat t9) (0, 0, 0, 0, 0, 0, 0, 0)).2.2.2.2.1, (List.getD o (Int.toNat t9) (0, 0, 0, 0, 0, 0, 0, 0)).2.2.2.2.2.1, (List.getD o (Int.toNat t9) (0, 0, 0, 0, 0, 0, 0, 0)).2.2.2.2.2.2.1), o_9.1)).bind fun o_19 =>
                                        (feluccaref06_Compare k (((List.getD o (Int.toNat t9) (0, 0, 0, 0, 0, 0, 0, 0)).2.1, (List.getD o (Int.toNat t9) (0, 0, 0, 0, 0, 0, 0, 0)).2.2.1, (List.getD o (Int.toNat t9) (0, 0, 0, 0, 0, 0, 0, 0)).2.2.2.1, (List.getD o (Int.toNat t9) (0, 0, 0, 0, 0, 0, 0, 0)).2.2.2.2.1, (List.getD o (Int.toNat t9) (0, 0, 0, 0, 0, 0, 0, 0)).2.2.2.2.2.1, (List.getD o (Int.toNat t9) (0, 0, 0, 0, 0, 0, 0, 0)).2.2.2.2.2.2.1), o_11.1)).bind fun o_20 =>
                                          bif !decide (o_19 = o_20) then
                                            some (Sum.inr false)
                                          else
                                            (feluccaref06_Copy k o_7.1).bind fun o_22 =>
                                              (feluccalaw06_ContactsTells_L1 k (o, t7, o_22, t9, o_7.1, 0)).bind fun o_23 =>
                                                match o_23 with
                                                | .inl o_24 =>
                                                  feluccalaw06_ContactsTells_L0 k (o_24.1, o_24.2.1, o_24.2.2.1, w64 (o_24.2.2.2 + 1))
                                                | .inr o_24 =>
                                                  some (Sum.inr o_24)
                                    else
                                      some (Sum.inr false)
                              else
                                some (Sum.inr false)
            else
              bif decide ((List.getD o (Int.toNat t9) (0, 0, 0, 0, 0, 0, 0, 0)).1 = 3) then
                (contacts_Change k (t8, (List.getD o (Int.toNat t9) (0, 0, 0, 0, 0, 0, 0, 0)).2.2.2.2.2.2.2, (List.getD o (Int.toNat t9) (0, 0, 0, 0, 0, 0, 0, 0)).2.2.2.2.2.2.1)).bind fun o_8 =>
                  (feluccaref06_Change k (t8, (List.getD o (Int.toNat t9) (0, 0, 0, 0, 0, 0, 0, 0)).2.2.2.2.2.2.2, (List.getD o (Int.toNat t9) (0, 0, 0, 0, 0, 0, 0, 0)).2.2.2.2.2.2.1)).bind fun o_9 =>
                    (contacts_Find k (o_8.1, (List.getD o (Int.toNat t9) (0, 0, 0, 0, 0, 0, 0, 0)).2.2.2.2.2.2.2)).bind fun o_10 =>
                      bif o_10.2 then
                        (feluccaref06_Find k (o_9.1, (List.getD o (Int.toNat t9) (0, 0, 0, 0, 0, 0, 0, 0)).2.2.2.2.2.2.2)).bind fun o_12 =>
                          bif o_12.2 then
                            bif !decide (o_8.2 = o_9.2) then
                              some (Sum.inr false)
                            else
                              (feluccaref06_Same k (o_8.1, o_9.1)).bind fun o_15 =>
                                bif o_15 then
                                  bif !(o_10.1.1 == o_12.1.1 && (o_10.1.2.1 == o_12.1.2.1 && (o_10.1.2.2.1 == o_12.1.2.2.1 && (o_10.1.2.2.2.1 == o_12.1.2.2.2.1 && (o_10.1.2.2.2.2.1 == o_12.1.2.2.2.2.1 && o_10.1.2.2.2.2.2 == o_12.1.2.2.2.2.2))))) then
                                    some (Sum.inr false)
                                  else
                                    (feluccaref06_Same k (o_4, t8)).bind fun o_18 =>
                                      bif o_18 then
                                        (contacts_Compare k (((List.getD o (Int.toNat t9) (0, 0, 0, 0, 0, 0, 0, 0)).2.1, (List.getD o (Int.toNat t9) (0, 0, 0, 0, 0, 0, 0, 0)).2.2.1, (List.getD o (Int.toNat t9) (0, 0, 0, 0, 0, 0, 0, 0)).2.2.2.1, (List.getD o (Int.toNat t9) (0, 0, 0, 0, 0, 0, 0, 0)).2.2.2.2.1, (List.getD o (Int.toNat t9) (0, 0, 0, 0, 0, 0, 0, 0)).2.2.2.2.2.1, (List.getD o (Int.toNat t9) (0, 0, 0, 0, 0, 0, 0, 0)).2.2.2.2.2.2.1), o_10.1)).bind fun o_20 =>
                                          (feluccaref06_Compare k (((List.getD o (Int.toNat t9) (0, 0, 0, 0, 0, 0, 0, 0)).2.1, (List.getD o (Int.toNat t9) (0, 0, 0, 0, 0, 0, 0, 0)).2.2.1, (List.getD o (Int.toNat t9) (0, 0, 0, 0, 0, 0, 0, 0)).2.2.2.1, (List.getD o (Int.toNat t9) (0, 0, 0, 0, 0, 0, 0, 0)).2.2.2.2.1, (List.getD o (Int.toNat t9) (0, 0, 0, 0, 0, 0, 0, 0)).2.2.2.2.2.1, (List.getD o (Int.toNat t9) (0, 0, 0, 0, 0, 0, 0, 0)).2.2.2.2.2.2.1), o_12.1)).bind fun o_21 =>
                                            bif !decide (o_20 = o_21) then
                                              some (Sum.inr false)
                                            else
                                              (feluccaref06_Copy k o_8.1).bind fun o_23 =>
                                                (feluccalaw06_ContactsTells_L1 k (o, t7, o_23, t9, o_8.1, 0)).bind fun o_24 =>
                                                  match o_24 with
                                                  | .inl o_25 =>
                                                    feluccalaw06_ContactsTells_L0 k (o_25.1, o_25.2.1, o_25.2.2.1, w64 (o_25.2.2.2 + 1))
                                                  | .inr o_25 =>
                                                    some (Sum.inr o_25)
                                      else
                                        some (Sum.inr false)
                                else
                                  some (Sum.inr false)
                          else
                            bif !decide (o_8.2 = o_9.2) then
                              some (Sum.inr false)
                            else
                              (feluccaref06_Same k (o_8.1, o_9.1)).bind fun o_15 =>
                                bif o_15 then
                                  bif !(o_10.1.1 == o_12.1.1 && (o_10.1.2.1 == o_12.1.2.1 && (o_10.1.2.2.1 == o_12.1.2.2.1 && (o_10.1.2.2.2.1 == o_12.1.2.2.2.1 && (o_10.1.2.2.2.2.1 == o_12.1.2.2.2.2.1 && o_10.1.2.2.2.2.2 == o_12.1.2.2.2.2.2))))) then
                                    some (Sum.inr false)
                                  else
                                    some (Sum.inr false)
                                else
                                  some (Sum.inr false)
                      else
                        (feluccaref06_Find k (o_9.1, (List.getD o (Int.toNat t9) (0, 0, 0, 0, 0, 0, 0, 0)).2.2.2.2.2.2.2)).bind fun o_12 =>
                          bif o_12.2 then
                            bif !decide (o_8.2 = o_9.2) then
                              some (Sum.inr false)
                            else
                              (feluccaref06_Same k (o_8.1, o_9.1)).bind fun o_15 =>
                                bif o_15 then
                                  bif !(o_10.1.1 == o_12.1.1 && (o_10.1.2.1 == o_12.1.2.1 && (o_10.1.2.2.1 == o_12.1.2.2.1 && (o_10.1.2.2.2.1 == o_12.1.2.2.2.1 && (o_10.1.2.2.2.2.1 == o_12.1.2.2.2.2.1 && o_10.1.2.2.2.2.2 == o_12.1.2.2.2.2.2))))) then
                                    some (Sum.inr false)
                                  else
                                    some (Sum.inr false)
                                else
                                  some (Sum.inr false)
                          else
                            bif !decide (o_8.2 = o_9.2) then
                              some (Sum.inr false)
                            else
                              (feluccaref06_Same k (o_8.1, o_9.1)).bind fun o_15 =>
                                bif o_15 then
                                  bif !(o_10.1.1 == o_12.1.1 && (o_10.1.2.1 == o_12.1.2.1 && (o_10.1.2.2.1 == o_12.1.2.2.1 && (o_10.1.2.2.2.1 == o_12.1.2.2.2.1 && (o_10.1.2.2.2.2.1 == o_12.1.2.2.2.2.1 && o_10.1.2.2.2.2.2 == o_12.1.2.2.2.2.2))))) then
                                    some (Sum.inr false)
                                  else
                                    (feluccaref06_Same k (o_4, t8)).bind fun o_18 =>
                                      bif o_18 then
                                        (contacts_Compare k (((List.getD o (Int.toNat t9) (0, 0, 0, 0, 0, 0, 0, 0)).2.1, (List.getD o (Int.toNat t9) (0, 0, 0, 0, 0, 0, 0, 0)).2.2.1, (List.getD o (Int.toNat t9) (0, 0, 0, 0, 0, 0, 0, 0)).2.2.2.1, (List.getD o (Int.toNat t9) (0, 0, 0, 0, 0, 0, 0, 0)).2.2.2.2.1, (List.getD o (Int.toNat t9) (0, 0, 0, 0, 0, 0, 0, 0)).2.2.2.2.2.1, (List.getD o (Int.toNat t9) (0, 0, 0, 0, 0, 0, 0, 0)).2.2.2.2.2.2.1), o_10.1)).bind fun o_20 =>
                                          (feluccaref06_Compare k (((List.getD o (Int.toNat t9) (0, 0, 0, 0, 0, 0, 0, 0)).2.1, (List.getD o (Int.toNat t9) (0, 0, 0, 0, 0, 0, 0, 0)).2.2.1, (List.getD o (Int.toNat t9) (0, 0, 0, 0, 0, 0, 0, 0)).2.2.2.1, (List.getD o (Int.toNat t9) (0, 0, 0, 0, 0, 0, 0, 0)).2.2.2.2.1, (List.getD o (Int.toNat t9) (0, 0, 0, 0, 0, 0, 0, 0)).2.2.2.2.2.1, (List.getD o (Int.toNat t9) (0, 0, 0, 0, 0, 0, 0, 0)).2.2.2.2.2.2.1), o_12.1)).bind fun o_21 =>
                                            bif !decide (o_20 = o_21) then
                                              some (Sum.inr false)
                                            else
                                              (feluccaref06_Copy k o_8.1).bind fun o_23 =>
                                                (feluccalaw06_ContactsTells_L1 k (o, t7, o_23, t9, o_8.1, 0)).bind fun o_24 =>
                                                  match o_24 with
                                                  | .inl o_25 =>
                                                    feluccalaw06_ContactsTells_L0 k (o_25.1, o_25.2.1, o_25.2.2.1, w64 (o_25.2.2.2 + 1))
                                                  | .inr o_25 =>
                                                    some (Sum.inr o_25)
                                      else
                                        some (Sum.inr false)
                                else
                                  some (Sum.inr false)
              else
                (contacts_Expire k (t8, (List.getD o (Int.toNat t9) (0, 0, 0, 0, 0, 0, 0, 0)).2.2.2.2.2.2.2)).bind fun o_8 =>
                  (feluccaref06_Expire k (t8, (List.getD o (Int.toNat t9) (0, 0, 0, 0, 0, 0, 0, 0)).2.2.2.2.2.2.2)).bind fun o_9 =>
                    (feluccaref05_Ints k (o_8.2, o_9.2)).bind fun o_10 =>
                      bif o_10 then
                        (contacts_Find k (o_8.1, (List.getD o (Int.toNat t9) (0, 0, 0, 0, 0, 0, 0, 0)).2.2.2.2.2.2.2)).bind fun o_12 =>
                          bif o_12.2 then
                            (feluccaref06_Find k (o_9.1, (List.getD o (Int.toNat t9) (0, 0, 0, 0, 0, 0, 0, 0)).2.2.2.2.2.2.2)).bind fun o_14 =>
                              bif o_14.2 then
                                (feluccaref06_Same k (o_8.1, o_9.1)).bind fun o_16 =>
                                  bif o_16 then
                                    bif !(o_12.1.1 == o_14.1.1 && (o_12.1.2.1 == o_14.1.2.1 && (o_12.1.2.2.1 == o_14.1.2.2.1 && (o_12.1.2.2.2.1 == o_14.1.2.2.2.1 && (o_12.1.2.2.2.2.1 == o_14.1.2.2.2.2.1 && o_12.1.2.2.2.2.2 == o_14.1.2.2.2.2.2))))) then
                                      some (Sum.inr false)
                                    else
                                      (feluccaref06_Same k (o_4, t8)).bind fun o_19 =>
                                        bif o_19 then
                                          (contacts_Compare k (((List.getD o (Int.toNat t9) (0, 0, 0, 0, 0, 0, 0, 0)).2.1, (List.getD o (Int.toNat t9) (0, 0, 0, 0, 0, 0, 0, 0)).2.2.1, (List.getD o (Int.toNat t9) (0, 0, 0, 0, 0, 0, 0, 0)).2.2.2.1, (List.getD o (Int.toNat t9) (0, 0, 0, 0, 0, 0, 0, 0)).2.2.2.2.1, (List.getD o (Int.toNat t9) (0, 0, 0, 0, 0, 0, 0, 0)).2.2.2.2.2.1, (List.getD o (Int.toNat t9) (0, 0, 0, 0, 0, 0, 0, 0)).2.2.2.2.2.2.1), o_12.1)).bind fun o_21 =>
                                            (feluccaref06_Compare k (((List.getD o (Int.toNat t9) (0, 0, 0, 0, 0, 0, 0, 0)).2.1, (List.getD o (Int.toNat t9) (0, 0, 0, 0, 0, 0, 0, 0)).2.2.1, (List.getD o (Int.toNat t9) (0, 0, 0, 0, 0, 0, 0, 0)).2.2.2.1, (List.getD o (Int.toNat t9) (0, 0, 0, 0, 0, 0, 0, 0)).2.2.2.2.1, (List.getD o (Int.toNat t9) (0, 0, 0, 0, 0, 0, 0, 0)).2.2.2.2.2.1, (List.getD o (Int.toNat t9) (0, 0, 0, 0, 0, 0, 0, 0)).2.2.2.2.2.2.1), o_14.1)).bind fun o_22 =>
                                              bif !decide (o_21 = o_22) then
                                                some (Sum.inr false)
                                              else
                                                (feluccaref06_Copy k o_8.1).bind fun o_24 =>
                                                  (feluccalaw06_ContactsTells_L1 k (o, t7, o_24, t9, o_8.1, 0)).bind fun o_25 =>
                                                    match o_25 with
                                                    | .inl o_26 =>
                                                      feluccalaw06_ContactsTells_L0 k (o_26.1, o_26.2.1, o_26.2.2.1, w64 (o_26.2.2.2 + 1))
                                                    | .inr o_26 =>
                                                      some (Sum.inr o_26)
                                        else
                                          some (Sum.inr false)
                                  else
                                    some (Sum.inr false)
                              else
                                (feluccaref06_Same k (o_8.1, o_9.1)).bind fun o_16 =>
                                  bif o_16 then
                                    bif !(o_12.1.1 == o_14.1.1 && (o_12.1.2.1 == o_14.1.2.1 && (o_12.1.2.2.1 == o_14.1.2.2.1 && (o_12.1.2.2.2.1 == o_14.1.2.2.2.1 && (o_12.1.2.2.2.2.1 == o_14.1.2.2.2.2.1 && o_12.1.2.2.2.2.2 == o_14.1.2.2.2.2.2))))) then
                                      some (Sum.inr false)
                                    else
                                      some (Sum.inr false)
                                  else
                                    some (Sum.inr false)
                          else
                            (feluccaref06_Find k (o_9.1, (List.getD o (Int.toNat t9) (0, 0, 0, 0, 0, 0, 0, 0)).2.2.2.2.2.2.2)).bind fun o_14 =>
                              bif o_14.2 then
                                (feluccaref06_Same k (o_8.1, o_9.1)).bind fun o_16 =>
                                  bif o_16 then
                                    bif !(o_12.1.1 == o_14.1.1 && (o_12.1.2.1 == o_14.1.2.1 && (o_12.1.2.2.1 == o_14.1.2.2.1 && (o_12.1.2.2.2.1 == o_14.1.2.2.2.1 && (o_12.1.2.2.2.2.1 == o_14.1.2.2.2.2.1 && o_12.1.2.2.2.2.2 == o_14.1.2.2.2.2.2))))) then
                                      some (Sum.inr false)
                                    else
                                      some (Sum.inr false)
                                  else
                                    some (Sum.inr false)
                              else
                                (feluccaref06_Same k (o_8.1, o_9.1)).bind fun o_16 =>
                                  bif o_16 then
                                    bif !(o_12.1.1 == o_14.1.1 && (o_12.1.2.1 == o_14.1.2.1 && (o_12.1.2.2.1 == o_14.1.2.2.1 && (o_12.1.2.2.2.1 == o_14.1.2.2.2.1 && (o_12.1.2.2.2.2.1 == o_14.1.2.2.2.2.1 && o_12.1.2.2.2.2.2 == o_14.1.2.2.2.2.2))))) then
                                      some (Sum.inr false)
                                    else
                                      (feluccaref06_Same k (o_4, t8)).bind fun o_19 =>
                                        bif o_19 then
                                          (contacts_Compare k (((List.getD o (Int.toNat t9) (0, 0, 0, 0, 0, 0, 0, 0)).2.1, (List.getD o (Int.toNat t9) (0, 0, 0, 0, 0, 0, 0, 0)).2.2.1, (List.getD o (Int.toNat t9) (0, 0, 0, 0, 0, 0, 0, 0)).2.2.2.1, (List.getD o (Int.toNat t9) (0, 0, 0, 0, 0, 0, 0, 0)).2.2.2.2.1, (List.getD o (Int.toNat t9) (0, 0, 0, 0, 0, 0, 0, 0)).2.2.2.2.2.1, (List.getD o (Int.toNat t9) (0, 0, 0, 0, 0, 0, 0, 0)).2.2.2.2.2.2.1), o_12.1)).bind fun o_21 =>
                                            (feluccaref06_Compare k (((List.getD o (Int.toNat t9) (0, 0, 0, 0, 0, 0, 0, 0)).2.1, (List.getD o (Int.toNat t9) (0, 0, 0, 0, 0, 0, 0, 0)).2.2.1, (List.getD o (Int.toNat t9) (0, 0, 0, 0, 0, 0, 0, 0)).2.2.2.1, (List.getD o (Int.toNat t9) (0, 0, 0, 0, 0, 0, 0, 0)).2.2.2.2.1, (List.getD o (Int.toNat t9) (0, 0, 0, 0, 0, 0, 0, 0)).2.2.2.2.2.1, (List.getD o (Int.toNat t9) (0, 0, 0, 0, 0, 0, 0, 0)).2.2.2.2.2.2.1), o_14.1)).bind fun o_22 =>
                                              bif !decide (o_21 = o_22) then
                                                some (Sum.inr false)
                                              else
                                                (feluccaref06_Copy k o_8.1).bind fun o_24 =>
                                                  (feluccalaw06_ContactsTells_L1 k (o, t7, o_24, t9, o_8.1, 0)).bind fun o_25 =>
                                                    match o_25 with
                                                    | .inl o_26 =>
                                                      feluccalaw06_ContactsTells_L0 k (o_26.1, o_26.2.1, o_26.2.2.1, w64 (o_26.2.2.2 + 1))
                                                    | .inr o_26 =>
                                                      some (Sum.inr o_26)
                                        else
                                          some (Sum.inr false)
                                  else
                                    some (Sum.inr false)
                      else
                        (contacts_Find k (o_8.1, (List.getD o (Int.toNat t9) (0, 0, 0, 0, 0, 0, 0, 0)).2.2.2.2.2.2.2)).bind fun o_12 =>
                          bif o_12.2 then
                            (feluccaref06_Find k (o_9.1, (List.getD o (Int.toNat t9) (0, 0, 0, 0, 0, 0, 0, 0)).2.2.2.2.2.2.2)).bind fun o_14 =>
                              bif o_14.2 then
                                some (Sum.inr false)
                              else
                                some (Sum.inr false)
                          else
                            (feluccaref06_Find k (o_9.1, (List.getD o (Int.toNat t9) (0, 0, 0, 0, 0, 0, 0, 0)).2.2.2.2.2.2.2)).bind fun o_14 =>
                              bif o_14.2 then
                                some (Sum.inr false)
                              else
                                some (Sum.inr false)
      else
        none
    else
      none
  else
    some (Sum.inl t7)
def feluccalaw06_ContactsTells (k : Nat) : ((List T28) × (List T30) × (List T28)) → Option (Bool) := fun (t, o, A) =>
  (feluccalaw06_small k ()).bind fun o_1 =>
    bif o_1 then
      bif decide (50 < Int.ofNat (List.length t)) then
        bif decide (50 < Int.ofNat (List.length t)) then
          some (true)
        else
          bif decide (50 < Int.ofNat (List.length o)) then
            some (true)
          else
            bif decide (50 < Int.ofNat (List.length A)) then
              some (true)
            else
              some (false)
      else
        bif decide (50 < Int.ofNat (List.length o)) then
          bif decide (50 < Int.ofNat (List.length t)) then
            some (true)
          else
            bif decide (50 < Int.ofNat (List.length o)) then
              some (true)
            else
              bif decide (50 < Int.ofNat (List.length A)) then
                some (true)
              else
                some (false)
        else
          bif decide (50 < Int.ofNat (List.length A)) then
            bif decide (50 < Int.ofNat (List.length t)) then
              some (true)
            else
              bif decide (50 < Int.ofNat (List.length o)) then
                some (true)
              else
                bif decide (50 < Int.ofNat (List.length A)) then
                  some (true)
                else
                  some (false)
          else
            (contacts_Right k t).bind fun o_6 =>
              bif o_6 then
                (feluccaref06_Right k t).bind fun o_8 =>
                  bif o_8 then
                    (contacts_Same k (t, A)).bind fun o_10 =>
                      bif o_10 then
                        (feluccaref06_Same k (t, A)).bind fun o_12 =>
                          bif o_12 then
                            (feluccaref06_Right k t).bind fun o_14 =>
                              bif o_14 then
                                (feluccalaw06_ContactsTells_L0 k (o, true, t, 0)).bind fun o_16 =>
                                  match o_16 with
                                  | .inl o_17 =>
                                    bif o_17 then
                                      some (true)
                                    else
                                      some (false)
                                  | .inr o_17 =>
                                    some (o_17)
                              else
                                some (true)
                          else
                            bif decide (50 < Int.ofNat (List.length t)) then
                              some (true)
                            else
                              bif decide (50 < Int.ofNat (List.length o)) then
                                some (true)
                              else
                                bif decide (50 < Int.ofNat (List.length A)) then
                                  some (true)
                                else
                                  some (false)
                      else
                        (feluccaref06_Same k (t, A)).bind fun o_12 =>
                          bif o_12 then
                            bif decide (50 < Int.ofNat (List.length t)) then
                              some (true)
                            else
                              bif decide (50 < Int.ofNat (List.length o)) then
                                some (true)
                              else
                                bif decide (50 < Int.ofNat (List.length A)) then
                                  some (true)
                                else
                                  some (false)
                          else
                            (feluccaref06_Right k t).bind fun o_14 =>
                              bif o_14 then
                                (feluccalaw06_ContactsTells_L0 k (o, true, t, 0)).bind fun o_16 =>
                                  match o_16 with
                                  | .inl o_17 =>
                                    bif o_17 then
                                      some (true)
                                    else
                                      some (false)
                                  | .inr o_17 =>
                                    some (o_17)
                              else
                                some (true)
                  else
                    bif decide (50 < Int.ofNat (List.length t)) then
                      some (true)
                    else
                      bif decide (50 < Int.ofNat (List.length o)) then
                        some (true)
                      else
                        bif decide (50 < Int.ofNat (List.length A)) then
                          some (true)
                        else
                          some (false)
              else
                (feluccaref06_Right k t).bind fun o_8 =>
                  bif o_8 then
                    bif decide (50 < Int.ofNat (List.length t)) then
                      some (true)
                    else
                      bif decide (50 < Int.ofNat (List.length o)) then
                        some (true)
                      else
                        bif decide (50 < Int.ofNat (List.length A)) then
                          some (true)
                        else
                          some (false)
                  else
                    (contacts_Same k (t, A)).bind fun o_10 =>
                      bif o_10 then
                        (feluccaref06_Same k (t, A)).bind fun o_12 =>
                          bif o_12 then
                            (feluccaref06_Right k t).bind fun o_14 =>
                              bif o_14 then
                                (feluccalaw06_ContactsTells_L0 k (o, true, t, 0)).bind fun o_16 =>
                                  match o_16 with
                                  | .inl o_17 =>
                                    bif o_17 then
                                      some (true)
                                    else
                                      some (false)
                                  | .inr o_17 =>
                                    some (o_17)
                              else
                                some (true)
                          else
                            bif decide (50 < Int.ofNat (List.length t)) then
                              some (true)
                            else
                              bif decide (50 < Int.ofNat (List.length o)) then
                                some (true)
                              else
                                bif decide (50 < Int.ofNat (List.length A)) then
                                  some (true)
                                else
                                  some (false)
                      else
                        (feluccaref06_Same k (t, A)).bind fun o_12 =>
                          bif o_12 then
                            bif decide (50 < Int.ofNat (List.length t)) then
                              some (true)
                            else
                              bif decide (50 < Int.ofNat (List.length o)) then
                                some (true)
                              else
                                bif decide (50 < Int.ofNat (List.length A)) then
                                  some (true)
                                else
                                  some (false)
                          else
                            (feluccaref06_Right k t).bind fun o_14 =>
                              bif o_14 then
                                (feluccalaw06_ContactsTells_L0 k (o, true, t, 0)).bind fun o_16 =>
                                  match o_16 with
                                  | .inl o_17 =>
                                    bif o_17 then
                                      some (true)
                                    else
                                      some (false)
                                  | .inr o_17 =>
                                    some (o_17)
                              else
                                some (true)
    else
      bif decide (50 < Int.ofNat (List.length t)) then
        some (false)
      else
        bif decide (50 < Int.ofNat (List.length o)) then
          some (false)
        else
          bif decide (50 < Int.ofNat (List.length A)) then
            some (false)
          else
            (contacts_Right k t).bind fun o_6 =>
              bif o_6 then
                (feluccaref06_Right k t).bind fun o_8 =>
                  bif o_8 then
                    (contacts_Same k (t, A)).bind fun o_10 =>
                      bif o_10 then
                        (feluccaref06_Same k (t, A)).bind fun o_12 =>
                          bif o_12 then
                            (feluccaref06_Right k t).bind fun o_14 =>
                              bif o_14 then
                                (feluccalaw06_ContactsTells_L0 k (o, false, t, 0)).bind fun o_16 =>
                                  match o_16 with
                                  | .inl o_17 =>
                                    bif o_17 then
                                      some (true)
                                    else
                                      some (false)
                                  | .inr o_17 =>
                                    some (o_17)
                              else
                                some (false)
                          else
                            some (false)
                      else
                        (feluccaref06_Same k (t, A)).bind fun o_12 =>
                          bif o_12 then
                            some (false)
                          else
                            (feluccaref06_Right k t).bind fun o_14 =>
                              bif o_14 then
                                (feluccalaw06_ContactsTells_L0 k (o, false, t, 0)).bind fun o_16 =>
                                  match o_16 with
                                  | .inl o_17 =>
                                    bif o_17 then
                                      some (true)
                                    else
                                      some (false)
                                  | .inr o_17 =>
                                    some (o_17)
                              else
                                some (false)
                  else
                    some (false)
              else
                (feluccaref06_Right k t).bind fun o_8 =>
                  bif o_8 then
                    some (false)
                  else
                    (contacts_Same k (t, A)).bind fun o_10 =>
                      bif o_10 then
                        (feluccaref06_Same k (t, A)).bind fun o_12 =>
                          bif o_12 then
                            (feluccaref06_Right k t).bind fun o_14 =>
                              bif o_14 then
                                (feluccalaw06_ContactsTells_L0 k (o, false, t, 0)).bind fun o_16 =>
                                  match o_16 with
                                  | .inl o_17 =>
                                    bif o_17 then
                                      some (true)
                                    else
                                      some (false)
                                  | .inr o_17 =>
                                    some (o_17)
                              else
                                some (false)
                          else
                            some (false)
                      else
                        (feluccaref06_Same k (t, A)).bind fun o_12 =>
                          bif o_12 then
                            some (false)
                          else
                            (feluccaref06_Right k t).bind fun o_14 =>
                              bif o_14 then
                                (feluccalaw06_ContactsTells_L0 k (o, false, t, 0)).bind fun o_16 =>
                                  match o_16 with
                                  | .inl o_17 =>
                                    bif o_17 then
                                      some (true)
                                    else
                                      some (false)
                                  | .inr o_17 =>
                                    some (o_17)
                              else
                                some (false)
noncomputable def feluccalaw06_ContactsTells_X : Cx Try.prog [.one (.sc (.bool))] := ⟨fun k => ⟨[feluccalaw06_small_e k, contacts_Right_e k, feluccaref06_Right_e k, contacts_Same_e k, feluccaref06_Same_e k, feluccaref06_Copy_e k, contacts_Add_e k, feluccaref06_Add_e k, contacts_Delete_e k, feluccaref06_Delete_e k, contacts_Change_e k, feluccaref06_Change_e k, contacts_Expire_e k, feluccaref06_Expire_e k, feluccaref05_Ints_e k, contacts_Find_e k, feluccaref06_Find_e k, contacts_Compare_e k, feluccaref06_Compare_e k], []⟩, Try.f3.ntmps, Try.f3.results, [some ⟨0, [(1, .one (.ro kT30)), (7, .one (.sc (.bool))), (8, .one (.ro kT28)), (9, .one (.sc (.int .i64)))], [(7, .one (.sc (.bool)))], feluccalaw06_ContactsTells_L0⟩, some ⟨3, [(1, .one (.ro kT30)), (7, .one (.sc (.bool))), (8, .one (.ro kT28)), (9, .one (.sc (.int .i64))), (12, .one (.own 28 kT28)), (25, .one (.sc (.int .i64)))], [(1, .one (.ro kT30)), (7, .one (.sc (.bool))), (8, .one (.ro kT28)), (9, .one (.sc (.int .i64)))], feluccalaw06_ContactsTells_L1⟩]⟩
theorem feluccalaw06_ContactsTells_L1_eq (k : Nat) (x : (List T30) × Bool × (List T28) × Int × (List T28) × Int) : feluccalaw06_ContactsTells_L1 (k + 1) x = roundF feluccalaw06_ContactsTells_X k ⟨3, [(1, .one (.ro kT30)), (7, .one (.sc (.bool))), (8, .one (.ro kT28)), (9, .one (.sc (.int .i64))), (12, .one (.own 28 kT28)), (25, .one (.sc (.int .i64)))], [(1, .one (.ro kT30)), (7, .one (.sc (.bool))), (8, .one (.ro kT28)), (9, .one (.sc (.int .i64)))], feluccalaw06_ContactsTells_L1⟩ 1 (lp feluccalaw06_ContactsTells_c 1) x := by kernel_rfl
theorem feluccalaw06_ContactsTells_L0_eq (k : Nat) (x : (List T30) × Bool × (List T28) × Int) : feluccalaw06_ContactsTells_L0 (k + 1) x = roundF feluccalaw06_ContactsTells_X k ⟨0, [(1, .one (.ro kT30)), (7, .one (.sc (.bool))), (8, .one (.ro kT28)), (9, .one (.sc (.int .i64)))], [(7, .one (.sc (.bool)))], feluccalaw06_ContactsTells_L0⟩ 0 (lp feluccalaw06_ContactsTells_c 0) x := by kernel_rfl
theorem feluccalaw06_ContactsTells_eq (k : Nat) (x : (List T28) × (List T30) × (List T28)) : feluccalaw06_ContactsTells k x = runF feluccalaw06_ContactsTells_X k feluccalaw06_ContactsTells_c [.one (.row 28 kT28), .one (.row 30 kT30), .one (.row 28 kT28)] x := by kernel_rfl
noncomputable def feluccalaw06_ContactsTells_e (k : Nat) : Ent Try.prog := ⟨3, [.one (.row 28 kT28), .one (.row 30 kT30), .one (.row 28 kT28)], [.one (.sc (.bool))], feluccalaw06_ContactsTells k, calls_of (X := feluccalaw06_ContactsTells_X) (k := k) (c := feluccalaw06_ContactsTells_c) Try.func3 (by kernel_rfl) (by kernel_rfl) (by kernel_rfl) (LoopEqs.all (show LoopEqs feluccalaw06_ContactsTells_X feluccalaw06_ContactsTells_c feluccalaw06_ContactsTells_X.L 0 from ⟨⟨fun _ => rfl, fun k x => feluccalaw06_ContactsTells_L0_eq k x⟩, ⟨⟨fun _ => rfl, fun k x => feluccalaw06_ContactsTells_L1_eq k x⟩, trivial⟩⟩)) (fun x => feluccalaw06_ContactsTells_eq k x), fun _ _ => by kernel_rfl⟩
end Go.Proofs.Ytggikacbelogcaa.Ex
