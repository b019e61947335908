import Derived.Test.YtaknikdbnfmlfaaDoorF1
import Derived.Test.YtaknikdbnfmlfaaDoorStr
import Derived.Test.YtaknikdbnfmlfaaDoorBld
import Derived.Test.YtaknikdbnfmlfaaDoorForms
import Derived.Test.YtaknikdbnfmlfaaDoorFnd
import Derived.Test.YtaknikdbnfmlfaaDoorExY
import Derived.Test.YtaknikdbnfmlfaaDoorExAA
import Derived.Test.YtaknikdbnfmlfaaDoorExEE
import Derived.Test.YtaknikdbnfmlfaaDoorProg
namespace Go.Proofs.YtaknikdbnfmlfaaDoor.Ex
open Go
set_option linter.unusedVariables false
set_option maxHeartbeats 0
/-! felucca/feluccalaw05.small -/
noncomputable def feluccalaw05_small_c : Code := Tryd.f31.body.getD .skip
def feluccalaw05_small (_k : Nat) : Unit → Option (Bool) := fun _ => some true
noncomputable def feluccalaw05_small_X : Cx Tryd.prog [.one (.sc (.bool))] := ⟨fun k => ⟨[text_Print_e k, text_Parse_e k, feluccaref05_Same_e k, feluccaref05_Ints_e k, text_Lines_e k], [], [hkStr Tryd.prog]⟩, Tryd.f31.ntmps, Tryd.f31.results, []⟩
theorem feluccalaw05_small_eq (x : Unit) : feluccalaw05_small 0 x = runF feluccalaw05_small_X 100 feluccalaw05_small_c [] x := by kernel_rfl
noncomputable def feluccalaw05_small_e (k : Nat) : Ent Tryd.prog := ⟨31, [], [.one (.sc (.bool))], feluccalaw05_small k, calls_of (X := feluccalaw05_small_X) (k := 100) (c := feluccalaw05_small_c) Tryd.func31 (by kernel_rfl) (by kernel_rfl) (by kernel_rfl) (LoopEqs.all (show LoopEqs feluccalaw05_small_X feluccalaw05_small_c feluccalaw05_small_X.L 0 from trivial)) (fun x => feluccalaw05_small_eq x), fun _ _ => by kernel_rfl⟩
/-! felucca/feluccalaw05.TextTells -/
noncomputable def feluccalaw05_TextTells_c : Code := Tryd.f7.body.getD .skip
def feluccalaw05_TextTells (k : Nat) : (ByteArray × (List GDirective)) → Option (Bool) := fun (s, l) =>
  (feluccalaw05_small k ()).bind fun o_1 =>
    bif o_1 then
      bif decide (2000 < Int.ofNat (ByteArray.size s)) then
        some (true)
      else
        bif decide (100 < Int.ofNat (List.length l)) then
          some (true)
        else
          (text_Parse k s).bind fun o_5 =>
            (feluccaref05_Parse k s).bind fun o_6 =>
              (text_Print k l).bind fun o_7 =>
                bif o_7.2 then
                  (feluccaref05_Print k l).bind fun o_9 =>
                    bif o_9.2 then
                      (feluccaref05_Same k (o_5.1, o_6.1)).bind fun o_11 =>
                        bif o_11 then
                          bif o_5.2.1 == o_6.2.1 && o_5.2.2 == o_6.2.2 then
                            bif o_7.1.data.toList == o_9.1.data.toList then
                              (text_Lines k s).bind fun o_15 =>
                                (feluccaref05_Lines k s).bind fun o_16 =>
                                  (feluccaref05_Ints k (o_15, o_16)).bind fun o_17 =>
                                    bif o_17 then
                                      some (true)
                                    else
                                      some (false)
                            else
                              some (false)
                          else
                            some (false)
                        else
                          some (false)
                    else
                      (feluccaref05_Same k (o_5.1, o_6.1)).bind fun o_11 =>
                        bif o_11 then
                          bif o_5.2.1 == o_6.2.1 && o_5.2.2 == o_6.2.2 then
                            bif o_7.1.data.toList == o_9.1.data.toList then
                              some (false)
                            else
                              some (false)
                          else
                            some (false)
                        else
                          some (false)
                else
                  (feluccaref05_Print k l).bind fun o_9 =>
                    bif o_9.2 then
                      (feluccaref05_Same k (o_5.1, o_6.1)).bind fun o_11 =>
                        bif o_11 then
                          bif o_5.2.1 == o_6.2.1 && o_5.2.2 == o_6.2.2 then
                            bif o_7.1.data.toList == o_9.1.data.toList then
                              some (false)
                            else
                              some (false)
                          else
                            some (false)
                        else
                          some (false)
                    else
                      (feluccaref05_Same k (o_5.1, o_6.1)).bind fun o_11 =>
                        bif o_11 then
                          bif o_5.2.1 == o_6.2.1 && o_5.2.2 == o_6.2.2 then
                            bif o_7.1.data.toList == o_9.1.data.toList then
                              (text_Lines k s).bind fun o_15 =>
                                (feluccaref05_Lines k s).bind fun o_16 =>
                                  (feluccaref05_Ints k (o_15, o_16)).bind fun o_17 =>
                                    bif o_17 then
                                      some (true)
                                    else
                                      some (false)
                            else
                              some (false)
                          else
                            some (false)
                        else
                          some (false)
    else
      bif decide (2000 < Int.ofNat (ByteArray.size s)) then
        some (false)
      else
        bif decide (100 < Int.ofNat (List.length l)) then
          some (false)
        else
          (text_Parse k s).bind fun o_5 =>
            (feluccaref05_Parse k s).bind fun o_6 =>
              (text_Print k l).bind fun o_7 =>
                bif o_7.2 then
                  (feluccaref05_Print k l).bind fun o_9 =>
                    bif o_9.2 then
                      some (false)
                    else
                      some (false)
                else
                  (feluccaref05_Print k l).bind fun o_9 =>
                    bif o_9.2 then
                      some (false)
                    else
                      some (false)
noncomputable def feluccalaw05_TextTells_X : Cx Tryd.prog [.one (.sc (.bool))] := ⟨fun k => ⟨[text_Print_e k, feluccalaw05_small_e k, text_Parse_e k, feluccaref05_Parse_e k, feluccaref05_Print_e k, feluccaref05_Same_e k, feluccaref05_Ints_e k, text_Lines_e k, feluccaref05_Lines_e k], [], [hkStr Tryd.prog]⟩, Tryd.f7.ntmps, Tryd.f7.results, []⟩
theorem feluccalaw05_TextTells_eq (k : Nat) (x : ByteArray × (List GDirective)) : feluccalaw05_TextTells k x = runF feluccalaw05_TextTells_X k feluccalaw05_TextTells_c [.one (.sc (.str)), .one (.row 27 kGDirective)] x := by kernel_rfl
noncomputable def feluccalaw05_TextTells_e (k : Nat) : Ent Tryd.prog := ⟨7, [.one (.sc (.str)), .one (.row 27 kGDirective)], [.one (.sc (.bool))], feluccalaw05_TextTells k, calls_of (X := feluccalaw05_TextTells_X) (k := k) (c := feluccalaw05_TextTells_c) Tryd.func7 (by kernel_rfl) (by kernel_rfl) (by kernel_rfl) (LoopEqs.all (show LoopEqs feluccalaw05_TextTells_X feluccalaw05_TextTells_c feluccalaw05_TextTells_X.L 0 from trivial)) (fun x => feluccalaw05_TextTells_eq k x), fun _ _ => by kernel_rfl⟩
/-! felucca/feluccalaw05.TextBack -/
noncomputable def feluccalaw05_TextBack_c : Code := Tryd.f8.body.getD .skip
def feluccalaw05_TextBack_L0 : Nat → ((List GDirective) × ByteArray × Bool × ByteArray × Bool × Bool × Int) → Option (((List GDirective) × ByteArray × Bool × ByteArray × Bool × Bool) ⊕ (Bool))
  | 0, _ => none
  | k + 1, (l, s, head, t, ok, right, i) =>
  bif decide (i < Int.ofNat (List.length l)) then
    bif right then
      bif decide (0 ≤ i) then
        bif decide (i < Int.ofNat (List.length l)) then
          (direct_Right k (List.getD l (Int.toNat i) (0, 0, 0, 0, 0, 0, 0, 0, 0, 0, 0, 0, 0))).bind fun o_5 =>
            bif o_5 then
              feluccalaw05_TextBack_L0 k (l, s, head, t, ok, true, w64 (i + 1))
            else
              feluccalaw05_TextBack_L0 k (l, s, head, t, ok, false, w64 (i + 1))
        else
          none
      else
        none
    else
      feluccalaw05_TextBack_L0 k (l, s, head, t, ok, false, w64 (i + 1))
  else
    some (Sum.inl (l, s, head, t, ok, right))
def feluccalaw05_TextBack (k : Nat) : ((List GDirective) × ByteArray) → Option (Bool) := fun (l, s) =>
  (feluccalaw05_small k ()).bind fun o_1 =>
    bif o_1 then
      bif decide (2000 < Int.ofNat (ByteArray.size s)) then
        some (true)
      else
        bif decide (100 < Int.ofNat (List.length l)) then
          some (true)
        else
          (text_Print k l).bind fun o_5 =>
            bif o_5.2 then
              (feluccalaw05_TextBack_L0 k (l, s, true, o_5.1, true, true, 0)).bind fun o_7 =>
                match o_7 with
                | .inl o_8 =>
                  bif o_8.2.2.2.2.1 then
                    bif o_8.2.2.2.2.2 then
                      bif o_8.2.2.2.2.1 then
                        bif o_8.2.2.2.2.1 then
                          (text_Parse k o_8.2.2.2.1).bind fun o_13 =>
                            bif !(o_13.2.1 == 0 && o_13.2.2 == 0) then
                              some (false)
                            else
                              (feluccaref05_Same k (o_13.1, o_8.1)).bind fun o_15 =>
                                bif o_15 then
                                  (text_Parse k o_8.2.1).bind fun o_17 =>
                                    bif !decide (o_17.2.2 = 0) then
                                      bif o_8.2.2.1 then
                                        bif decide (Int.ofNat (List.length o_17.1) = 0) then
                                          bif decide (1 ≤ o_17.2.1) then
                                            (words_Lines k o_8.2.1).bind fun o_22 =>
                                              bif decide (o_17.2.1 ≤ Int.ofNat (List.length o_22)) then
                                                some (true)
                                              else
                                                some (false)
                                          else
                                            some (false)
                                        else
                                          some (false)
                                      else
                                        some (false)
                                    else
                                      (text_Print k o_17.1).bind fun o_19 =>
                                        bif o_19.2 then
                                          (text_Parse k o_19.1).bind fun o_21 =>
                                            bif o_8.2.2.1 then
                                              bif decide (o_17.2.1 = 0) then
                                                bif o_21.2.1 == 0 && o_21.2.2 == 0 then
                                                  (feluccaref05_Same k (o_21.1, o_17.1)).bind fun o_25 =>
                                                    bif o_25 then
                                                      some (true)
                                                    else
                                                      some (false)
                                                else
                                                  some (false)
                                              else
                                                some (false)
                                            else
                                              some (false)
                                        else
                                          (text_Parse k o_19.1).bind fun o_21 =>
                                            bif o_8.2.2.1 then
                                              bif decide (o_17.2.1 = 0) then
                                                some (false)
                                              else
                                                some (false)
                                            else
                                              some (false)
                                else
                                  some (false)
                        else
                          (text_Parse k o_8.2.1).bind fun o_13 =>
                            bif !decide (o_13.2.2 = 0) then
                              bif o_8.2.2.1 then
                                bif decide (Int.ofNat (List.length o_13.1) = 0) then
                                  bif decide (1 ≤ o_13.2.1) then
                                    (words_Lines k o_8.2.1).bind fun o_18 =>
                                      bif decide (o_13.2.1 ≤ Int.ofNat (List.length o_18)) then
                                        some (true)
                                      else
                                        some (false)
                                  else
                                    some (false)
                                else
                                  some (false)
                              else
                                some (false)
                            else
                              (text_Print k o_13.1).bind fun o_15 =>
                                bif o_15.2 then
                                  (text_Parse k o_15.1).bind fun o_17 =>
                                    bif o_8.2.2.1 then
                                      bif decide (o_13.2.1 = 0) then
                                        bif o_17.2.1 == 0 && o_17.2.2 == 0 then
                                          (feluccaref05_Same k (o_17.1, o_13.1)).bind fun o_21 =>
                                            bif o_21 then
                                              some (true)
                                            else
                                              some (false)
                                        else
                                          some (false)
                                      else
                                        some (false)
                                    else
                                      some (false)
                                else
                                  (text_Parse k o_15.1).bind fun o_17 =>
                                    bif o_8.2.2.1 then
                                      bif decide (o_13.2.1 = 0) then
                                        some (false)
                                      else
                                        some (false)
                                    else
                                      some (false)
                      else
                        bif !o_8.2.2.2.1.data.toList == (⟨#[]⟩ : ByteArray).data.toList then
                          some (false)
                        else
                          bif o_8.2.2.2.2.1 then
                            (text_Parse k o_8.2.2.2.1).bind fun o_14 =>
                              bif !(o_14.2.1 == 0 && o_14.2.2 == 0) then
                                some (false)
                              else
                                (feluccaref05_Same k (o_14.1, o_8.1)).bind fun o_16 =>
                                  bif o_16 then
                                    (text_Parse k o_8.2.1).bind fun o_18 =>
                                      bif !decide (o_18.2.2 = 0) then
                                        bif o_8.2.2.1 then
                                          bif decide (Int.ofNat (List.length o_18.1) = 0) then
                                            bif decide (1 ≤ o_18.2.1) then
                                              (words_Lines k o_8.2.1).bind fun o_23 =>
                                                bif decide (o_18.2.1 ≤ Int.ofNat (List.length o_23)) then
                                                  some (true)
                                                else
                                                  some (false)
                                            else
                                              some (false)
                                          else
                                            some (false)
                                        else
                                          some (false)
                                      else
                                        (text_Print k o_18.1).bind fun o_20 =>
                                          bif o_20.2 then
                                            (text_Parse k o_20.1).bind fun o_22 =>
                                              bif o_8.2.2.1 then
                                                bif decide (o_18.2.1 = 0) then
                                                  bif o_22.2.1 == 0 && o_22.2.2 == 0 then
                                                    (feluccaref05_Same k (o_22.1, o_18.1)).bind fun o_26 =>
                                                      bif o_26 then
                                                        some (true)
                                                      else
                                                        some (false)
                                                  else
                                                    some (false)
                                                else
                                                  some (false)
                                              else
                                                some (false)
                                          else
                                            (text_Parse k o_20.1).bind fun o_22 =>
                                              bif o_8.2.2.1 then
                                                bif decide (o_18.2.1 = 0) then
                                                  some (false)
                                                else
                                                  some (false)
                                              else
                                                some (false)
                                  else
                                    some (false)
                          else
                            (text_Parse k o_8.2.1).bind fun o_14 =>
                              bif !decide (o_14.2.2 = 0) then
                                bif o_8.2.2.1 then
                                  bif decide (Int.ofNat (List.length o_14.1) = 0) then
                                    bif decide (1 ≤ o_14.2.1) then
                                      (words_Lines k o_8.2.1).bind fun o_19 =>
                                        bif decide (o_14.2.1 ≤ Int.ofNat (List.length o_19)) then
                                          some (true)
                                        else
                                          some (false)
                                    else
                                      some (false)
                                  else
                                    some (false)
                                else
                                  some (false)
                              else
                                (text_Print k o_14.1).bind fun o_16 =>
                                  bif o_16.2 then
                                    (text_Parse k o_16.1).bind fun o_18 =>
                                      bif o_8.2.2.1 then
                                        bif decide (o_14.2.1 = 0) then
                                          bif o_18.2.1 == 0 && o_18.2.2 == 0 then
                                            (feluccaref05_Same k (o_18.1, o_14.1)).bind fun o_22 =>
                                              bif o_22 then
                                                some (true)
                                              else
                                                some (false)
                                          else
                                            some (false)
                                        else
                                          some (false)
                                      else
                                        some (false)
                                  else
                                    (text_Parse k o_16.1).bind fun o_18 =>
                                      bif o_8.2.2.1 then
                                        bif decide (o_14.2.1 = 0) then
                                          some (false)
                                        else
                                          some (false)
                                      else
                                        some (false)
                    else
                      some (false)
                  else
                    bif o_8.2.2.2.2.2 then
                      some (false)
                    else
                      bif o_8.2.2.2.2.1 then
                        bif o_8.2.2.2.2.1 then
                          (text_Parse k o_8.2.2.2.1).bind fun o_13 =>
                            bif !(o_13.2.1 == 0 && o_13.2.2 == 0) then
                              some (false)
                            else
                              (feluccaref05_Same k (o_13.1, o_8.1)).bind fun o_15 =>
                                bif o_15 then
                                  (text_Parse k o_8.2.1).bind fun o_17 =>
                                    bif !decide (o_17.2.2 = 0) then
                                      bif o_8.2.2.1 then
                                        bif decide (Int.ofNat (List.length o_17.1) = 0) then
                                          bif decide (1 ≤ o_17.2.1) then
                                            (words_Lines k o_8.2.1).bind fun o_22 =>
                                              bif decide (o_17.2.1 ≤ Int.ofNat (List.length o_22)) then
                                                some (true)
                                              else
                                                some (false)
                                          else
                                            some (false)
                                        else
                                          some (false)
                                      else
                                        some (false)
                                    else
                                      (text_Print k o_17.1).bind fun o_19 =>
                                        bif o_19.2 then
                                          (text_Parse k o_19.1).bind fun o_21 =>
                                            bif o_8.2.2.1 then
                                              bif decide (o_17.2.1 = 0) then
                                                bif o_21.2.1 == 0 && o_21.2.2 == 0 then
                                                  (feluccaref05_Same k (o_21.1, o_17.1)).bind fun o_25 =>
                                                    bif o_25 then
                                                      some (true)
                                                    else
                                                      some (false)
                                                else
                                                  some (false)
                                              else
                                                some (false)
                                            else
                                              some (false)
                                        else
                                          (text_Parse k o_19.1).bind fun o_21 =>
                                            bif o_8.2.2.1 then
                                              bif decide (o_17.2.1 = 0) then
                                                some (false)
                                              else
                                                some (false)
                                            else
                                              some (false)
                                else
                                  some (false)
                        else
                          (text_Parse k o_8.2.1).bind fun o_13 =>
                            bif !decide (o_13.2.2 = 0) then
                              bif o_8.2.2.1 then
                                bif decide (Int.ofNat (List.length o_13.1) = 0) then
                                  bif decide (1 ≤ o_13.2.1) then
                                    (words_Lines k o_8.2.1).bind fun o_18 =>
                                      bif decide (o_13.2.1 ≤ Int.ofNat (List.length o_18)) then
                                        some (true)
                                      else
                                        some (false)
                                  else
                                    some (false)
                                else
                                  some (false)
                              else
                                some (false)
                            else
                              (text_Print k o_13.1).bind fun o_15 =>
                                bif o_15.2 then
                                  (text_Parse k o_15.1).bind fun o_17 =>
                                    bif o_8.2.2.1 then
                                      bif decide (o_13.2.1 = 0) then
                                        bif o_17.2.1 == 0 && o_17.2.2 == 0 then
                                          (feluccaref05_Same k (o_17.1, o_13.1)).bind fun o_21 =>
                                            bif o_21 then
                                              some (true)
                                            else
                                              some (false)
                                        else
                                          some (false)
                                      else
                                        some (false)
                                    else
                                      some (false)
                                else
                                  (text_Parse k o_15.1).bind fun o_17 =>
                                    bif o_8.2.2.1 then
                                      bif decide (o_13.2.1 = 0) then
                                        some (false)
                                      else
                                        some (false)
                                    else
                                      some (false)
                      else
                        bif !o_8.2.2.2.1.data.toList == (⟨#[]⟩ : ByteArray).data.toList then
                          some (false)
                        else
                          bif o_8.2.2.2.2.1 then
                            (text_Parse k o_8.2.2.2.1).bind fun o_14 =>
                              bif !(o_14.2.1 == 0 && o_14.2.2 == 0) then
                                some (false)
                              else
                                (feluccaref05_Same k (o_14.1, o_8.1)).bind fun o_16 =>
                                  bif o_16 then
                                    (text_Parse k o_8.2.1).bind fun o_18 =>
                                      bif !decide (o_18.2.2 = 0) then
                                        bif o_8.2.2.1 then
                                          bif decide (Int.ofNat (List.length o_18.1) = 0) then
                                            bif decide (1 ≤ o_18.2.1) then
                                              (words_Lines k o_8.2.1).bind fun o_23 =>
                                                bif decide (o_18.2.1 ≤ Int.ofNat (List.length o_23)) then
                                                  some (true)
                                                else
                                                  some (false)
                                            else
                                              some (false)
                                          else
                                            some (false)
                                        else
                                          some (false)
                                      else
                                        (text_Print k o_18.1).bind fun o_20 =>
                                          bif o_20.2 then
                                            (text_Parse k o_20.1).bind fun o_22 =>
                                              bif o_8.2.2.1 then
                                                bif decide (o_18.2.1 = 0) then
                                                  bif o_22.2.1 == 0 && o_22.2.2 == 0 then
                                                    (feluccaref05_Same k (o_22.1, o_18.1)).bind fun o_26 =>
                                                      bif o_26 then
                                                        some (true)
                                                      else
                                                        some (false)
                                                  else
                                                    some (false)
                                                else
                                                  some (false)
                                              else
                                                some (false)
                                          else
                                            (text_Parse k o_20.1).bind fun o_22 =>
                                              bif o_8.2.2.1 then
                                                bif decide (o_18.2.1 = 0) then
                                                  some (false)
                                                else
                                                  some (false)
                                              else
                                                some (false)
                                  else
                                    some (false)
                          else
                            (text_Parse k o_8.2.1).bind fun o_14 =>
                              bif !decide (o_14.2.2 = 0) then
                                bif o_8.2.2.1 then
                                  bif decide (Int.ofNat (List.length o_14.1) = 0) then
                                    bif decide (1 ≤ o_14.2.1) then
                                      (words_Lines k o_8.2.1).bind fun o_19 =>
                                        bif decide (o_14.2.1 ≤ Int.ofNat (List.length o_19)) then
                                          some (true)
                                        else
                                          some (false)
                                    else
                                      some (false)
                                  else
                                    some (false)
                                else
                                  some (false)
                              else
                                (text_Print k o_14.1).bind fun o_16 =>
                                  bif o_16.2 then
                                    (text_Parse k o_16.1).bind fun o_18 =>
                                      bif o_8.2.2.1 then
                                        bif decide (o_14.2.1 = 0) then
                                          bif o_18.2.1 == 0 && o_18.2.2 == 0 then
                                            (feluccaref05_Same k (o_18.1, o_14.1)).bind fun o_22 =>
                                              bif o_22 then
                                                some (true)
                                              else
                                                some (false)
                                          else
                                            some (false)
                                        else
                                          some (false)
                                      else
                                        some (false)
                                  else
                                    (text_Parse k o_16.1).bind fun o_18 =>
                                      bif o_8.2.2.1 then
                                        bif decide (o_14.2.1 = 0) then
                                          some (false)
                                        else
                                          some (false)
                                      else
                                        some (false)
                | .inr o_8 =>
                  some (o_8)
            else
              (feluccalaw05_TextBack_L0 k (l, s, true, o_5.1, false, true, 0)).bind fun o_7 =>
                match o_7 with
                | .inl o_8 =>
                  bif o_8.2.2.2.2.1 then
                    bif o_8.2.2.2.2.2 then
                      bif o_8.2.2.2.2.1 then
                        bif o_8.2.2.2.2.1 then
                          (text_Parse k o_8.2.2.2.1).bind fun o_13 =>
                            bif !(o_13.2.1 == 0 && o_13.2.2 == 0) then
                              some (false)
                            else
                              (feluccaref05_Same k (o_13.1, o_8.1)).bind fun o_15 =>
                                bif o_15 then
                                  (text_Parse k o_8.2.1).bind fun o_17 =>
                                    bif !decide (o_17.2.2 = 0) then
                                      bif o_8.2.2.1 then
                                        bif decide (Int.ofNat (List.length o_17.1) = 0) then
                                          bif decide (1 ≤ o_17.2.1) then
                                            (words_Lines k o_8.2.1).bind fun o_22 =>
                                              bif decide (o_17.2.1 ≤ Int.ofNat (List.length o_22)) then
                                                some (true)
                                              else
                                                some (false)
                                          else
                                            some (false)
                                        else
                                          some (false)
                                      else
                                        some (false)
                                    else
                                      (text_Print k o_17.1).bind fun o_19 =>
                                        bif o_19.2 then
                                          (text_Parse k o_19.1).bind fun o_21 =>
                                            bif o_8.2.2.1 then
                                              bif decide (o_17.2.1 = 0) then
                                                bif o_21.2.1 == 0 && o_21.2.2 == 0 then
                                                  (feluccaref05_Same k (o_21.1, o_17.1)).bind fun o_25 =>
                                                    bif o_25 then
                                                      some (true)
                                                    else
                                                      some (false)
                                                else
                                                  some (false)
                                              else
                                                some (false)
                                            else
                                              some (false)
                                        else
                                          (text_Parse k o_19.1).bind fun o_21 =>
                                            bif o_8.2.2.1 then
                                              bif decide (o_17.2.1 = 0) then
                                                some (false)
                                              else
                                                some (false)
                                            else
                                              some (false)
                                else
                                  some (false)
                        else
                          (text_Parse k o_8.2.1).bind fun o_13 =>
                            bif !decide (o_13.2.2 = 0) then
                              bif o_8.2.2.1 then
                                bif decide (Int.ofNat (List.length o_13.1) = 0) then
                                  bif decide (1 ≤ o_13.2.1) then
                                    (words_Lines k o_8.2.1).bind fun o_18 =>
                                      bif decide (o_13.2.1 ≤ Int.ofNat (List.length o_18)) then
                                        some (true)
                                      else
                                        some (false)
                                  else
                                    some (false)
                                else
                                  some (false)
                              else
                                some (false)
                            else
                              (text_Print k o_13.1).bind fun o_15 =>
                                bif o_15.2 then
                                  (text_Parse k o_15.1).bind fun o_17 =>
                                    bif o_8.2.2.1 then
                                      bif decide (o_13.2.1 = 0) then
                                        bif o_17.2.1 == 0 && o_17.2.2 == 0 then
                                          (feluccaref05_Same k (o_17.1, o_13.1)).bind fun o_21 =>
                                            bif o_21 then
                                              some (true)
                                            else
                                              some (false)
                                        else
                                          some (false)
                                      else
                                        some (false)
                                    else
                                      some (false)
                                else
                                  (text_Parse k o_15.1).bind fun o_17 =>
                                    bif o_8.2.2.1 then
                                      bif decide (o_13.2.1 = 0) then
                                        some (false)
                                      else
                                        some (false)
                                    else
                                      some (false)
                      else
                        bif !o_8.2.2.2.1.data.toList == (⟨#[]⟩ : ByteArray).data.toList then
                          some (false)
                        else
                          bif o_8.2.2.2.2.1 then
                            (text_Parse k o_8.2.2.2.1).bind fun o_14 =>
                              bif !(o_14.2.1 == 0 && o_14.2.2 == 0) then
                                some (false)
                              else
                                (feluccaref05_Same k (o_14.1, o_8.1)).bind fun o_16 =>
                                  bif o_16 then
                                    (text_Parse k o_8.2.1).bind fun o_18 =>
                                      bif !decide (o_18.2.2 = 0) then
                                        bif o_8.2.2.1 then
                                          bif decide (Int.ofNat (List.length o_18.1) = 0) then
                                            bif decide (1 ≤ o_18.2.1) then
                                              (words_Lines k o_8.2.1).bind fun o_23 =>
                                                bif decide (o_18.2.1 ≤ Int.ofNat (List.length o_23)) then
                                                  some (true)
                                                else
                                                  some (false)
                                            else
                                              some (false)
                                          else
                                            some (false)
                                        else
                                          some (false)
                                      else
                                        (text_Print k o_18.1).bind fun o_20 =>
                                          bif o_20.2 then
                                            (text_Parse k o_20.1).bind fun o_22 =>
                                              bif o_8.2.2.1 then
                                                bif decide (o_18.2.1 = 0) then
                                                  bif o_22.2.1 == 0 && o_22.2.2 == 0 then
                                                    (feluccaref05_Same k (o_22.1, o_18.1)).bind fun o_26 =>
                                                      bif o_26 then
                                                        some (true)
                                                      else
                                                        some (false)
                                                  else
                                                    some (false)
                                                else
                                                  some (false)
                                              else
                                                some (false)
                                          else
                                            (text_Parse k o_20.1).bind fun o_22 =>
                                              bif o_8.2.2.1 then
                                                bif decide (o_18.2.1 = 0) then
                                                  some (false)
                                                else
                                                  some (false)
                                              else
                                                some (false)
                                  else
                                    some (false)
                          else
                            (text_Parse k o_8.2.1).bind fun o_14 =>
                              bif !decide (o_14.2.2 = 0) then
                                bif o_8.2.2.1 then
                                  bif decide (Int.ofNat (List.length o_14.1) = 0) then
                                    bif decide (1 ≤ o_14.2.1) then
                                      (words_Lines k o_8.2.1).bind fun o_19 =>
                                        bif decide (o_14.2.1 ≤ Int.ofNat (List.length o_19)) then
                                          some (true)
                                        else
                                          some (false)
                                    else
                                      some (false)
                                  else
                                    some (false)
                                else
                                  some (false)
                              else
                                (text_Print k o_14.1).bind fun o_16 =>
                                  bif o_16.2 then
                                    (text_Parse k o_16.1).bind fun o_18 =>
                                      bif o_8.2.2.1 then
                                        bif decide (o_14.2.1 = 0) then
                                          bif o_18.2.1 == 0 && o_18.2.2 == 0 then
                                            (feluccaref05_Same k (o_18.1, o_14.1)).bind fun o_22 =>
                                              bif o_22 then
                                                some (true)
                                              else
                                                some (false)
                                          else
                                            some (false)
                                        else
                                          some (false)
                                      else
                                        some (false)
                                  else
                                    (text_Parse k o_16.1).bind fun o_18 =>
                                      bif o_8.2.2.1 then
                                        bif decide (o_14.2.1 = 0) then
                                          some (false)
                                        else
                                          some (false)
                                      else
                                        some (false)
                    else
                      some (false)
                  else
                    bif o_8.2.2.2.2.2 then
                      some (false)
                    else
                      bif o_8.2.2.2.2.1 then
                        bif o_8.2.2.2.2.1 then
                          (text_Parse k o_8.2.2.2.1).bind fun o_13 =>
                            bif !(o_13.2.1 == 0 && o_13.2.2 == 0) then
                              some (false)
                            else
                              (feluccaref05_Same k (o_13.1, o_8.1)).bind fun o_15 =>
                                bif o_15 then
                                  (text_Parse k o_8.2.1).bind fun o_17 =>
                                    bif !decide (o_17.2.2 = 0) then
                                      bif o_8.2.2.1 then
                                        bif decide (Int.ofNat (List.length o_17.1) = 0) then
                                          bif decide (1 ≤ o_17.2.1) then
                                            (words_Lines k o_8.2.1).bind fun o_22 =>
                                              bif decide (o_17.2.1 ≤ Int.ofNat (List.length o_22)) then
                                                some (true)
                                              else
                                                some (false)
                                          else
                                            some (false)
                                        else
                                          some (false)
                                      else
                                        some (false)
                                    else
                                      (text_Print k o_17.1).bind fun o_19 =>
                                        bif o_19.2 then
                                          (text_Parse k o_19.1).bind fun o_21 =>
                                            bif o_8.2.2.1 then
                                              bif decide (o_17.2.1 = 0) then
                                                bif o_21.2.1 == 0 && o_21.2.2 == 0 then
                                                  (feluccaref05_Same k (o_21.1, o_17.1)).bind fun o_25 =>
                                                    bif o_25 then
                                                      some (true)
                                                    else
                                                      some (false)
                                                else
                                                  some (false)
                                              else
                                                some (false)
                                            else
                                              some (false)
                                        else
                                          (text_Parse k o_19.1).bind fun o_21 =>
                                            bif o_8.2.2.1 then
                                              bif decide (o_17.2.1 = 0) then
                                                some (false)
                                              else
                                                some (false)
                                            else
                                              some (false)
                                else
                                  some (false)
                        else
                          (text_Parse k o_8.2.1).bind fun o_13 =>
                            bif !decide (o_13.2.2 = 0) then
                              bif o_8.2.2.1 then
                                bif decide (Int.ofNat (List.length o_13.1) = 0) then
                                  bif decide (1 ≤ o_13.2.1) then
                                    (words_Lines k o_8.2.1).bind fun o_18 =>
                                      bif decide (o_13.2.1 ≤ Int.ofNat (List.length o_18)) then
                                        some (true)
                                      else
                                        some (false)
                                  else
                                    some (false)
                                else
                                  some (false)
                              else
                                some (false)
                            else
                              (text_Print k o_13.1).bind fun o_15 =>
                                bif o_15.2 then
                                  (text_Parse k o_15.1).bind fun o_17 =>
                                    bif o_8.2.2.1 then
                                      bif decide (o_13.2.1 = 0) then
                                        bif o_17.2.1 == 0 && o_17.2.2 == 0 then
                                          (feluccaref05_Same k (o_17.1, o_13.1)).bind fun o_21 =>
                                            bif o_21 then
                                              some (true)
                                            else
                                              some (false)
                                        else
                                          some (false)
                                      else
                                        some (false)
                                    else
                                      some (false)
                                else
                                  (text_Parse k o_15.1).bind fun o_17 =>
                                    bif o_8.2.2.1 then
                                      bif decide (o_13.2.1 = 0) then
                                        some (false)
                                      else
                                        some (false)
                                    else
                                      some (false)
                      else
                        bif !o_8.2.2.2.1.data.toList == (⟨#[]⟩ : ByteArray).data.toList then
                          some (false)
                        else
                          bif o_8.2.2.2.2.1 then
                            (text_Parse k o_8.2.2.2.1).bind fun o_14 =>
                              bif !(o_14.2.1 == 0 && o_14.2.2 == 0) then
                                some (false)
                              else
                                (feluccaref05_Same k (o_14.1, o_8.1)).bind fun o_16 =>
                                  bif o_16 then
                                    (text_Parse k o_8.2.1).bind fun o_18 =>
                                      bif !decide (o_18.2.2 = 0) then
                                        bif o_8.2.2.1 then
                                          bif decide (Int.ofNat (List.length o_18.1) = 0) then
                                            bif decide (1 ≤ o_18.2.1) then
                                              (words_Lines k o_8.2.1).bind fun o_23 =>
                                                bif decide (o_18.2.1 ≤ Int.ofNat (List.length o_23)) then
                                                  some (true)
                                                else
                                                  some (false)
                                            else
                                              some (false)
                                          else
                                            some (false)
                                        else
                                          some (false)
                                      else
                                        (text_Print k o_18.1).bind fun o_20 =>
                                          bif o_20.2 then
                                            (text_Parse k o_20.1).bind fun o_22 =>
                                              bif o_8.2.2.1 then
                                                bif decide (o_18.2.1 = 0) then
                                                  bif o_22.2.1 == 0 && o_22.2.2 == 0 then
                                                    (feluccaref05_Same k (o_22.1, o_18.1)).bind fun o_26 =>
                                                      bif o_26 then
                                                        some (true)
                                                      else
                                                        some (false)
                                                  else
                                                    some (false)
                                                else
                                                  some (false)
                                              else
                                                some (false)
                                          else
                                            (text_Parse k o_20.1).bind fun o_22 =>
                                              bif o_8.2.2.1 then
                                                bif decide (o_18.2.1 = 0) then
                                                  some (false)
                                                else
                                                  some (false)
                                              else
                                                some (false)
                                  else
                                    some (false)
                          else
                            (text_Parse k o_8.2.1).bind fun o_14 =>
                              bif !decide (o_14.2.2 = 0) then
                                bif o_8.2.2.1 then
                                  bif decide (Int.ofNat (List.length o_14.1) = 0) then
                                    bif decide (1 ≤ o_14.2.1) then
                                      (words_Lines k o_8.2.1).bind fun o_19 =>
                                        bif decide (o_14.2.1 ≤ Int.ofNat (List.length o_19)) then
                                          some (true)
                                        else
                                          some (false)
                                    else
                                      some (false)
                                  else
                                    some (false)
                                else
                                  some (false)
                              else
                                (text_Print k o_14.1).bind fun o_16 =>
                                  bif o_16.2 then
                                    (text_Parse k o_16.1).bind fun o_18 =>
                                      bif o_8.2.2.1 then
                                        bif decide (o_14.2.1 = 0) then
                                          bif o_18.2.1 == 0 && o_18.2.2 == 0 then
                                            (feluccaref05_Same k (o_18.1, o_14.1)).bind fun o_22 =>
                                              bif o_22 then
                                                some (true)
                                              else
                                                some (false)
                                          else
                                            some (false)
                                        else
                                          some (false)
                                      else
                                        some (false)
                                  else
                                    (text_Parse k o_16.1).bind fun o_18 =>
                                      bif o_8.2.2.1 then
                                        bif decide (o_14.2.1 = 0) then
                                          some (false)
                                        else
                                          some (false)
                                      else
                                        some (false)
                | .inr o_8 =>
                  some (o_8)
    else
      bif decide (2000 < Int.ofNat (ByteArray.size s)) then
        some (false)
      else
        bif decide (100 < Int.ofNat (List.length l)) then
          some (false)
        else
          (text_Print k l).bind fun o_5 =>
            bif o_5.2 then
              (feluccalaw05_TextBack_L0 k (l, s, false, o_5.1, true, true, 0)).bind fun o_7 =>
                match o_7 with
                | .inl o_8 =>
                  bif o_8.2.2.2.2.1 then
                    bif o_8.2.2.2.2.2 then
                      bif o_8.2.2.2.2.1 then
                        bif o_8.2.2.2.2.1 then
                          (text_Parse k o_8.2.2.2.1).bind fun o_13 =>
                            bif !(o_13.2.1 == 0 && o_13.2.2 == 0) then
                              some (false)
                            else
                              (feluccaref05_Same k (o_13.1, o_8.1)).bind fun o_15 =>
                                bif o_15 then
                                  (text_Parse k o_8.2.1).bind fun o_17 =>
                                    bif !decide (o_17.2.2 = 0) then
                                      bif o_8.2.2.1 then
                                        bif decide (Int.ofNat (List.length o_17.1) = 0) then
                                          bif decide (1 ≤ o_17.2.1) then
                                            (words_Lines k o_8.2.1).bind fun o_22 =>
                                              bif decide (o_17.2.1 ≤ Int.ofNat (List.length o_22)) then
                                                some (true)
                                              else
                                                some (false)
                                          else
                                            some (false)
                                        else
                                          some (false)
                                      else
                                        some (false)
                                    else
                                      (text_Print k o_17.1).bind fun o_19 =>
                                        bif o_19.2 then
                                          (text_Parse k o_19.1).bind fun o_21 =>
                                            bif o_8.2.2.1 then
                                              bif decide (o_17.2.1 = 0) then
                                                bif o_21.2.1 == 0 && o_21.2.2 == 0 then
                                                  (feluccaref05_Same k (o_21.1, o_17.1)).bind fun o_25 =>
                                                    bif o_25 then
                                                      some (true)
                                                    else
                                                      some (false)
                                                else
                                                  some (false)
                                              else
                                                some (false)
                                            else
                                              some (false)
                                        else
                                          (text_Parse k o_19.1).bind fun o_21 =>
                                            bif o_8.2.2.1 then
                                              bif decide (o_17.2.1 = 0) then
                                                some (false)
                                              else
                                                some (false)
                                            else
                                              some (false)
                                else
                                  some (false)
                        else
                          (text_Parse k o_8.2.1).bind fun o_13 =>
                            bif !decide (o_13.2.2 = 0) then
                              bif o_8.2.2.1 then
                                bif decide (Int.ofNat (List.length o_13.1) = 0) then
                                  bif decide (1 ≤ o_13.2.1) then
                                    (words_Lines k o_8.2.1).bind fun o_18 =>
                                      bif decide (o_13.2.1 ≤ Int.ofNat (List.length o_18)) then
                                        some (true)
                                      else
                                        some (false)
                                  else
                                    some (false)
                                else
                                  some (false)
                              else
                                some (false)
                            else
                              (text_Print k o_13.1).bind fun o_15 =>
                                bif o_15.2 then
                                  (text_Parse k o_15.1).bind fun o_17 =>
                                    bif o_8.2.2.1 then
                                      bif decide (o_13.2.1 = 0) then
                                        bif o_17.2.1 == 0 && o_17.2.2 == 0 then
                                          (feluccaref05_Same k (o_17.1, o_13.1)).bind fun o_21 =>
                                            bif o_21 then
                                              some (true)
                                            else
                                              some (false)
                                        else
                                          some (false)
                                      else
                                        some (false)
                                    else
                                      some (false)
                                else
                                  (text_Parse k o_15.1).bind fun o_17 =>
                                    bif o_8.2.2.1 then
                                      bif decide (o_13.2.1 = 0) then
                                        some (false)
                                      else
                                        some (false)
                                    else
                                      some (false)
                      else
                        bif !o_8.2.2.2.1.data.toList == (⟨#[]⟩ : ByteArray).data.toList then
                          some (false)
                        else
                          bif o_8.2.2.2.2.1 then
                            (text_Parse k o_8.2.2.2.1).bind fun o_14 =>
                              bif !(o_14.2.1 == 0 && o_14.2.2 == 0) then
                                some (false)
                              else
                                (feluccaref05_Same k (o_14.1, o_8.1)).bind fun o_16 =>
                                  bif o_16 then
                                    (text_Parse k o_8.2.1).bind fun o_18 =>
                                      bif !decide (o_18.2.2 = 0) then
                                        bif o_8.2.2.1 then
                                          bif decide (Int.ofNat (List.length o_18.1) = 0) then
                                            bif decide (1 ≤ o_18.2.1) then
                                              (words_Lines k o_8.2.1).bind fun o_23 =>
                                                bif decide (o_18.2.1 ≤ Int.ofNat (List.length o_23)) then
                                                  some (true)
                                                else
                                                  some (false)
                                            else
                                              some (false)
                                          else
                                            some (false)
                                        else
                                          some (false)
                                      else
                                        (text_Print k o_18.1).bind fun o_20 =>
                                          bif o_20.2 then
                                            (text_Parse k o_20.1).bind fun o_22 =>
                                              bif o_8.2.2.1 then
                                                bif decide (o_18.2.1 = 0) then
                                                  bif o_22.2.1 == 0 && o_22.2.2 == 0 then
                                                    (feluccaref05_Same k (o_22.1, o_18.1)).bind fun o_26 =>
                                                      bif o_26 then
                                                        some (true)
                                                      else
                                                        some (false)
                                                  else
                                                    some (false)
                                                else
                                                  some (false)
                                              else
                                                some (false)
                                          else
                                            (text_Parse k o_20.1).bind fun o_22 =>
                                              bif o_8.2.2.1 then
                                                bif decide (o_18.2.1 = 0) then
                                                  some (false)
                                                else
                                                  some (false)
                                              else
                                                some (false)
                                  else
                                    some (false)
                          else
                            (text_Parse k o_8.2.1).bind fun o_14 =>
                              bif !decide (o_14.2.2 = 0) then
                                bif o_8.2.2.1 then
                                  bif decide (Int.ofNat (List.length o_14.1) = 0) then
                                    bif decide (1 ≤ o_14.2.1) then
                                      (words_Lines k o_8.2.1).bind fun o_19 =>
                                        bif decide (o_14.2.1 ≤ Int.ofNat (List.length o_19)) then
                                          some (true)
                                        else
                                          some (false)
                                    else
                                      some (false)
                                  else
                                    some (false)
                                else
                                  some (false)
                              else
                                (text_Print k o_14.1).bind fun o_16 =>
                                  bif o_16.2 then
                                    (text_Parse k o_16.1).bind fun o_18 =>
                                      bif o_8.2.2.1 then
                                        bif decide (o_14.2.1 = 0) then
                                          bif o_18.2.1 == 0 && o_18.2.2 == 0 then
                                            (feluccaref05_Same k (o_18.1, o_14.1)).bind fun o_22 =>
                                              bif o_22 then
                                                some (true)
                                              else
                                                some (false)
                                          else
                                            some (false)
                                        else
                                          some (false)
                                      else
                                        some (false)
                                  else
                                    (text_Parse k o_16.1).bind fun o_18 =>
                                      bif o_8.2.2.1 then
                                        bif decide (o_14.2.1 = 0) then
                                          some (false)
                                        else
                                          some (false)
                                      else
                                        some (false)
                    else
                      some (false)
                  else
                    bif o_8.2.2.2.2.2 then
                      some (false)
                    else
                      bif o_8.2.2.2.2.1 then
                        bif o_8.2.2.2.2.1 then
                          (text_Parse k o_8.2.2.2.1).bind fun o_13 =>
                            bif !(o_13.2.1 == 0 && o_13.2.2 == 0) then
                              some (false)
                            else
                              (feluccaref05_Same k (o_13.1, o_8.1)).bind fun o_15 =>
                                bif o_15 then
                                  (text_Parse k o_8.2.1).bind fun o_17 =>
                                    bif !decide (o_17.2.2 = 0) then
                                      bif o_8.2.2.1 then
                                        bif decide (Int.ofNat (List.length o_17.1) = 0) then
                                          bif decide (1 ≤ o_17.2.1) then
                                            (words_Lines k o_8.2.1).bind fun o_22 =>
                                              bif decide (o_17.2.1 ≤ Int.ofNat (List.length o_22)) then
                                                some (true)
                                              else
                                                some (false)
                                          else
                                            some (false)
                                        else
                                          some (false)
                                      else
                                        some (false)
                                    else
                                      (text_Print k o_17.1).bind fun o_19 =>
                                        bif o_19.2 then
                                          (text_Parse k o_19.1).bind fun o_21 =>
                                            bif o_8.2.2.1 then
                                              bif decide (o_17.2.1 = 0) then
                                                bif o_21.2.1 == 0 && o_21.2.2 == 0 then
                                                  (feluccaref05_Same k (o_21.1, o_17.1)).bind fun o_25 =>
                                                    bif o_25 then
                                                      some (true)
                                                    else
                                                      some (false)
                                                else
                                                  some (false)
                                              else
                                                some (false)
                                            else
                                              some (false)
                                        else
                                          (text_Parse k o_19.1).bind fun o_21 =>
                                            bif o_8.2.2.1 then
                                              bif decide (o_17.2.1 = 0) then
                                                some (false)
                                              else
                                                some (false)
                                            else
                                              some (false)
                                else
                                  some (false)
                        else
                          (text_Parse k o_8.2.1).bind fun o_13 =>
                            bif !decide (o_13.2.2 = 0) then
                              bif o_8.2.2.1 then
                                bif decide (Int.ofNat (List.length o_13.1) = 0) then
                                  bif decide (1 ≤ o_13.2.1) then
                                    (words_Lines k o_8.2.1).bind fun o_18 =>
                                      bif decide (o_13.2.1 ≤ Int.ofNat (List.length o_18)) then
                                        some (true)
                                      else
                                        some (false)
                                  else
                                    some (false)
                                else
                                  some (false)
                              else
                                some (false)
                            else
                              (text_Print k o_13.1).bind fun o_15 =>
                                bif o_15.2 then
                                  (text_Parse k o_15.1).bind fun o_17 =>
                                    bif o_8.2.2.1 then
                                      bif decide (o_13.2.1 = 0) then
                                        bif o_17.2.1 == 0 && o_17.2.2 == 0 then
                                          (feluccaref05_Same k (o_17.1, o_13.1)).bind fun o_21 =>
                                            bif o_21 then
                                              some (true)
                                            else
                                              some (false)
                                        else
                                          some (false)
                                      else
                                        some (false)
                                    else
                                      some (false)
                                else
                                  (text_Parse k o_15.1).bind fun o_17 =>
                                    bif o_8.2.2.1 then
                                      bif decide (o_13.2.1 = 0) then
                                        some (false)
                                      else
                                        some (false)
                                    else
                                      some (false)
                      else
                        bif !o_8.2.2.2.1.data.toList == (⟨#[]⟩ : ByteArray).data.toList then
                          some (false)
                        else
                          bif o_8.2.2.2.2.1 then
                            (text_Parse k o_8.2.2.2.1).bind fun o_14 =>
                              bif !(o_14.2.1 == 0 && o_14.2.2 == 0) then
                                some (false)
                              else
                                (feluccaref05_Same k (o_14.1, o_8.1)).bind fun o_16 =>
                                  bif o_16 then
                                    (text_Parse k o_8.2.1).bind fun o_18 =>
                                      bif !decide (o_18.2.2 = 0) then
                                        bif o_8.2.2.1 then
                                          bif decide (Int.ofNat (List.length o_18.1) = 0) then
                                            bif decide (1 ≤ o_18.2.1) then
                                              (words_Lines k o_8.2.1).bind fun o_23 =>
                                                bif decide (o_18.2.1 ≤ Int.ofNat (List.length o_23)) then
                                                  some (true)
                                                else
                                                  some (false)
                                            else
                                              some (false)
                                          else
                                            some (false)
                                        else
                                          some (false)
                                      else
                                        (text_Print k o_18.1).bind fun o_20 =>
                                          bif o_20.2 then
                                            (text_Parse k o_20.1).bind fun o_22 =>
                                              bif o_8.2.2.1 then
                                                bif decide (o_18.2.1 = 0) then
                                                  bif o_22.2.1 == 0 && o_22.2.2 == 0 then
                                                    (feluccaref05_Same k (o_22.1, o_18.1)).bind fun o_26 =>
                                                      bif o_26 then
                                                        some (true)
                                                      else
                                                        some (false)
                                                  else
                                                    some (false)
                                                else
                                                  some (false)
                                              else
                                                some (false)
                                          else
                                            (text_Parse k o_20.1).bind fun o_22 =>
                                              bif o_8.2.2.1 then
                                                bif decide (o_18.2.1 = 0) then
                                                  some (false)
                                                else
                                                  some (false)
                                              else
                                                some (false)
                                  else
                                    some (false)
                          else
                            (text_Parse k o_8.2.1).bind fun o_14 =>
                              bif !decide (o_14.2.2 = 0) then
                                bif o_8.2.2.1 then
                                  bif decide (Int.ofNat (List.length o_14.1) = 0) then
                                    bif decide (1 ≤ o_14.2.1) then
                                      (words_Lines k o_8.2.1).bind fun o_19 =>
                                        bif decide (o_14.2.1 ≤ Int.ofNat (List.length o_19)) then
                                          some (true)
                                        else
                                          some (false)
                                    else
                                      some (false)
                                  else
                                    some (false)
                                else
                                  some (false)
                              else
                                (text_Print k o_14.1).bind fun o_16 =>
                                  bif o_16.2 then
                                    (text_Parse k o_16.1).bind fun o_18 =>
                                      bif o_8.2.2.1 then
                                        bif decide (o_14.2.1 = 0) then
                                          bif o_18.2.1 == 0 && o_18.2.2 == 0 then
                                            (feluccaref05_Same k (o_18.1, o_14.1)).bind fun o_22 =>
                                              bif o_22 then
                                                some (true)
                                              else
                                                some (false)
                                          else
                                            some (false)
                                        else
                                          some (false)
                                      else
                                        some (false)
                                  else
                                    (text_Parse k o_16.1).bind fun o_18 =>
                                      bif o_8.2.2.1 then
                                        bif decide (o_14.2.1 = 0) then
                                          some (false)
                                        else
                                          some (false)
                                      else
                                        some (false)
                | .inr o_8 =>
                  some (o_8)
            else
              (feluccalaw05_TextBack_L0 k (l, s, false, o_5.1, false, true, 0)).bind fun o_7 =>
                match o_7 with
                | .inl o_8 =>
                  bif o_8.2.2.2.2.1 then
                    bif o_8.2.2.2.2.2 then
                      bif o_8.2.2.2.2.1 then
                        bif o_8.2.2.2.2.1 then
                          (text_Parse k o_8.2.2.2.1).bind fun o_13 =>
                            bif !(o_13.2.1 == 0 && o_13.2.2 == 0) then
                              some (false)
                            else
                              (feluccaref05_Same k (o_13.1, o_8.1)).bind fun o_15 =>
                                bif o_15 then
                                  (text_Parse k o_8.2.1).bind fun o_17 =>
                                    bif !decide (o_17.2.2 = 0) then
                                      bif o_8.2.2.1 then
                                        bif decide (Int.ofNat (List.length o_17.1) = 0) then
                                          bif decide (1 ≤ o_17.2.1) then
                                            (words_Lines k o_8.2.1).bind fun o_22 =>
                                              bif decide (o_17.2.1 ≤ Int.ofNat (List.length o_22)) then
                                                some (true)
                                              else
                                                some (false)
                                          else
                                            some (false)
                                        else
                                          some (false)
                                      else
                                        some (false)
                                    else
                                      (text_Print k o_17.1).bind fun o_19 =>
                                        bif o_19.2 then
                                          (text_Parse k o_19.1).bind fun o_21 =>
                                            bif o_8.2.2.1 then
                                              bif decide (o_17.2.1 = 0) then
                                                bif o_21.2.1 == 0 && o_21.2.2 == 0 then
                                                  (feluccaref05_Same k (o_21.1, o_17.1)).bind fun o_25 =>
                                                    bif o_25 then
                                                      some (true)
                                                    else
                                                      some (false)
                                                else
                                                  some (false)
                                              else
                                                some (false)
                                            else
                                              some (false)
                                        else
                                          (text_Parse k o_19.1).bind fun o_21 =>
                                            bif o_8.2.2.1 then
                                              bif decide (o_17.2.1 = 0) then
                                                some (false)
                                              else
                                                some (false)
                                            else
                                              some (false)
                                else
                                  some (false)
                        else
                          (text_Parse k o_8.2.1).bind fun o_13 =>
                            bif !decide (o_13.2.2 = 0) then
                              bif o_8.2.2.1 then
                                bif decide (Int.ofNat (List.length o_13.1) = 0) then
                                  bif decide (1 ≤ o_13.2.1) then
                                    (words_Lines k o_8.2.1).bind fun o_18 =>
                                      bif decide (o_13.2.1 ≤ Int.ofNat (List.length o_18)) then
                                        some (true)
                                      else
                                        some (false)
                                  else
                                    some (false)
                                else
                                  some (false)
                              else
                                some (false)
                            else
                              (text_Print k o_13.1).bind fun o_15 =>
                                bif o_15.2 then
                                  (text_Parse k o_15.1).bind fun o_17 =>
                                    bif o_8.2.2.1 then
                                      bif decide (o_13.2.1 = 0) then
                                        bif o_17.2.1 == 0 && o_17.2.2 == 0 then
                                          (feluccaref05_Same k (o_17.1, o_13.1)).bind fun o_21 =>
                                            bif o_21 then
                                              some (true)
                                            else
                                              some (false)
                                        else
                                          some (false)
                                      else
                                        some (false)
                                    else
                                      some (false)
                                else
                                  (text_Parse k o_15.1).bind fun o_17 =>
                                    bif o_8.2.2.1 then
                                      bif decide (o_13.2.1 = 0) then
                                        some (false)
                                      else
                                        some (false)
                                    else
                                      some (false)
                      else
                        bif !o_8.2.2.2.1.data.toList == (⟨#[]⟩ : ByteArray).data.toList then
                          some (false)
                        else
                          bif o_8.2.2.2.2.1 then
                            (text_Parse k o_8.2.2.2.1).bind fun o_14 =>
                              bif !(o_14.2.1 == 0 && o_14.2.2 == 0) then
                                some (false)
                              else
                                (feluccaref05_Same k (o_14.1, o_8.1)).bind fun o_16 =>
                                  bif o_16 then
                                    (text_Parse k o_8.2.1).bind fun o_18 =>
                                      bif !decide (o_18.2.2 = 0) then
                                        bif o_8.2.2.1 then
                                          bif decide (Int.ofNat (List.length o_18.1) = 0) then
                                            bif decide (1 ≤ o_18.2.1) then
                                              (words_Lines k o_8.2.1).bind fun o_23 =>
                                                bif decide (o_18.2.1 ≤ Int.ofNat (List.length o_23)) then
                                                  some (true)
                                                else
                                                  some (false)
                                            else
                                              some (false)
                                          else
                                            some (false)
                                        else
                                          some (false)
                                      else
                                        (text_Print k o_18.1).bind fun o_20 =>
                                          bif o_20.2 then
                                            (text_Parse k o_20.1).bind fun o_22 =>
                                              bif o_8.2.2.1 then
                                                bif decide (o_18.2.1 = 0) then
                                                  bif o_22.2.1 == 0 && o_22.2.2 == 0 then
                                                    (feluccaref05_Same k (o_22.1, o_18.1)).bind fun o_26 =>
                                                      bif o_26 then
                                                        some (true)
                                                      else
                                                        some (false)
                                                  else
                                                    some (false)
                                                else
                                                  some (false)
                                              else
                                                some (false)
                                          else
                                            (text_Parse k o_20.1).bind fun o_22 =>
                                              bif o_8.2.2.1 then
                                                bif decide (o_18.2.1 = 0) then
                                                  some (false)
                                                else
                                                  some (false)
                                              else
                                                some (false)
                                  else
                                    some (false)
                          else
                            (text_Parse k o_8.2.1).bind fun o_14 =>
                              bif !decide (o_14.2.2 = 0) then
                                bif o_8.2.2.1 then
                                  bif decide (Int.ofNat (List.length o_14.1) = 0) then
                                    bif decide (1 ≤ o_14.2.1) then
                                      (words_Lines k o_8.2.1).bind fun o_19 =>
                                        bif decide (o_14.2.1 ≤ Int.ofNat (List.length o_19)) then
                                          some (true)
                                        else
                                          some (false)
                                    else
                                      some (false)
                                  else
                                    some (false)
                                else
                                  some (false)
                              else
                                (text_Print k o_14.1).bind fun o_16 =>
                                  bif o_16.2 then
                                    (text_Parse k o_16.1).bind fun o_18 =>
                                      bif o_8.2.2.1 then
                                        bif decide (o_14.2.1 = 0) then
                                          bif o_18.2.1 == 0 && o_18.2.2 == 0 then
                                            (feluccaref05_Same k (o_18.1, o_14.1)).bind fun o_22 =>
                                              bif o_22 then
                                                some (true)
                                              else
                                                some (false)
                                          else
                                            some (false)
                                        else
                                          some (false)
                                      else
                                        some (false)
                                  else
                                    (text_Parse k o_16.1).bind fun o_18 =>
                                      bif o_8.2.2.1 then
                                        bif decide (o_14.2.1 = 0) then
                                          some (false)
                                        else
                                          some (false)
                                      else
                                        some (false)
                    else
                      some (false)
                  else
                    bif o_8.2.2.2.2.2 then
                      some (false)
                    else
                      bif o_8.2.2.2.2.1 then
                        bif o_8.2.2.2.2.1 then
                          (text_Parse k o_8.2.2.2.1).bind fun o_13 =>
                            bif !(o_13.2.1 == 0 && o_13.2.2 == 0) then
                              some (false)
                            else
                              (feluccaref05_Same k (o_13.1, o_8.1)).bind fun o_15 =>
                                bif o_15 then
                                  (text_Parse k o_8.2.1).bind fun o_17 =>
                                    bif !decide (o_17.2.2 = 0) then
                                      bif o_8.2.2.1 then
                                        bif decide (Int.ofNat (List.length o_17.1) = 0) then
                                          bif decide (1 ≤ o_17.2.1) then
                                            (words_Lines k o_8.2.1).bind fun o_22 =>
                                              bif decide (o_17.2.1 ≤ Int.ofNat (List.length o_22)) then
                                                some (true)
                                              else
                                                some (false)
                                          else
                                            some (false)
                                        else
                                          some (false)
                                      else
                                        some (false)
                                    else
                                      (text_Print k o_17.1).bind fun o_19 =>
                                        bif o_19.2 then
                                          (text_Parse k o_19.1).bind fun o_21 =>
                                            bif o_8.2.2.1 then
                                              bif decide (o_17.2.1 = 0) then
                                                bif o_21.2.1 == 0 && o_21.2.2 == 0 then
                                                  (feluccaref05_Same k (o_21.1, o_17.1)).bind fun o_25 =>
                                                    bif o_25 then
                                                      some (true)
                                                    else
                                                      some (false)
                                                else
                                                  some (false)
                                              else
                                                some (false)
                                            else
                                              some (false)
                                        else
                                          (text_Parse k o_19.1).bind fun o_21 =>
                                            bif o_8.2.2.1 then
                                              bif decide (o_17.2.1 = 0) then
                                                some (false)
                                              else
                                                some (false)
                                            else
                                              some (false)
                                else
                                  some (false)
                        else
                          (text_Parse k o_8.2.1).bind fun o_13 =>
                            bif !decide (o_13.2.2 = 0) then
                              bif o_8.2.2.1 then
                                bif decide (Int.ofNat (List.length o_13.1) = 0) then
                                  bif decide (1 ≤ o_13.2.1) then
                                    (words_Lines k o_8.2.1).bind fun o_18 =>
                                      bif decide (o_13.2.1 ≤ Int.ofNat (List.length o_18)) then
                                        some (true)
                                      else
                                        some (false)
                                  else
                                    some (false)
                                else
                                  some (false)
                              else
                                some (false)
                            else
                              (text_Print k o_13.1).bind fun o_15 =>
                                bif o_15.2 then
                                  (text_Parse k o_15.1).bind fun o_17 =>
                                    bif o_8.2.2.1 then
                                      bif decide (o_13.2.1 = 0) then
                                        bif o_17.2.1 == 0 && o_17.2.2 == 0 then
                                          (feluccaref05_Same k (o_17.1, o_13.1)).bind fun o_21 =>
                                            bif o_21 then
                                              some (true)
                                            else
                                              some (false)
                                        else
                                          some (false)
                                      else
                                        some (false)
                                    else
                                      some (false)
                                else
                                  (text_Parse k o_15.1).bind fun o_17 =>
                                    bif o_8.2.2.1 then
                                      bif decide (o_13.2.1 = 0) then
                                        some (false)
                                      else
                                        some (false)
                                    else
                                      some (false)
                      else
                        bif !o_8.2.2.2.1.data.toList == (⟨#[]⟩ : ByteArray).data.toList then
                          some (false)
                        else
                          bif o_8.2.2.2.2.1 then
                            (text_Parse k o_8.2.2.2.1).bind fun o_14 =>
                              bif !(o_14.2.1 == 0 && o_14.2.2 == 0) then
                                some (false)
                              else
                                (feluccaref05_Same k (o_14.1, o_8.1)).bind fun o_16 =>
                                  bif o_16 then
                                    (text_Parse k o_8.2.1).bind fun o_18 =>
                                      bif !decide (o_18.2.2 = 0) then
                                        bif o_8.2.2.1 then
                                          bif decide (Int.ofNat (List.length o_18.1) = 0) then
                                            bif decide (1 ≤ o_18.2.1) then
                                              (words_Lines k o_8.2.1).bind fun o_23 =>
                                                bif decide (o_18.2.1 ≤ Int.ofNat (List.length o_23)) then
                                                  some (true)
                                                else
                                                  some (false)
                                            else
                                              some (false)
                                          else
                                            some (false)
                                        else
                                          some (false)
                                      else
                                        (text_Print k o_18.1).bind fun o_20 =>
                                          bif o_20.2 then
                                            (text_Parse k o_20.1).bind fun o_22 =>
                                              bif o_8.2.2.1 then
                                                bif decide (o_18.2.1 = 0) then
                                                  bif o_22.2.1 == 0 && o_22.2.2 == 0 then
                                                    (feluccaref05_Same k (o_22.1, o_18.1)).bind fun o_26 =>
                                                      bif o_26 then
                                                        some (true)
                                                      else
                                                        some (false)
                                                  else
                                                    some (false)
                                                else
                                                  some (false)
                                              else
                                                some (false)
                                          else
                                            (text_Parse k o_20.1).bind fun o_22 =>
                                              bif o_8.2.2.1 then
                                                bif decide (o_18.2.1 = 0) then
                                                  some (false)
                                                else
                                                  some (false)
                                              else
                                                some (false)
                                  else
                                    some (false)
                          else
                            (text_Parse k o_8.2.1).bind fun o_14 =>
                              bif !decide (o_14.2.2 = 0) then
                                bif o_8.2.2.1 then
                                  bif decide (Int.ofNat (List.length o_14.1) = 0) then
                                    bif decide (1 ≤ o_14.2.1) then
                                      (words_Lines k o_8.2.1).bind fun o_19 =>
                                        bif decide (o_14.2.1 ≤ Int.ofNat (List.length o_19)) then
                                          some (true)
                                        else
                                          some (false)
                                    else
                                      some (false)
                                  else
                                    some (false)
                                else
                                  some (false)
                              else
                                (text_Print k o_14.1).bind fun o_16 =>
                                  bif o_16.2 then
                                    (text_Parse k o_16.1).bind fun o_18 =>
                                      bif o_8.2.2.1 then
                                        bif decide (o_14.2.1 = 0) then
                                          bif o_18.2.1 == 0 && o_18.2.2 == 0 then
                                            (feluccaref05_Same k (o_18.1, o_14.1)).bind fun o_22 =>
                                              bif o_22 then
                                                some (true)
                                              else
                                                some (false)
                                          else
                                            some (false)
                                        else
                                          some (false)
                                      else
                                        some (false)
                                  else
                                    (text_Parse k o_16.1).bind fun o_18 =>
                                      bif o_8.2.2.1 then
                                        bif decide (o_14.2.1 = 0) then
                                          some (false)
                                        else
                                          some (false)
                                      else
                                        some (false)
                | .inr o_8 =>
                  some (o_8)
noncomputable def feluccalaw05_TextBack_X : Cx Tryd.prog [.one (.sc (.bool))] := ⟨fun k => ⟨[direct_Right_e k, text_Print_e k, feluccalaw05_small_e k, text_Parse_e k, feluccaref05_Same_e k, words_Lines_e k], [], [hkStr Tryd.prog]⟩, Tryd.f8.ntmps, Tryd.f8.results, [some ⟨0, [(0, .one (.ro kGDirective)), (1, .one (.sc (.str))), (5, .one (.sc (.bool))), (6, .one (.sc (.str))), (7, .one (.sc (.bool))), (8, .one (.sc (.bool))), (9, .one (.sc (.int .i64)))], [(0, .one (.ro kGDirective)), (1, .one (.sc (.str))), (5, .one (.sc (.bool))), (6, .one (.sc (.str))), (7, .one (.sc (.bool))), (8, .one (.sc (.bool)))], feluccalaw05_TextBack_L0⟩]⟩
theorem feluccalaw05_TextBack_L0_eq (k : Nat) (x : (List GDirective) × ByteArray × Bool × ByteArray × Bool × Bool × Int) : feluccalaw05_TextBack_L0 (k + 1) x = roundF feluccalaw05_TextBack_X k ⟨0, [(0, .one (.ro kGDirective)), (1, .one (.sc (.str))), (5, .one (.sc (.bool))), (6, .one (.sc (.str))), (7, .one (.sc (.bool))), (8, .one (.sc (.bool))), (9, .one (.sc (.int .i64)))], [(0, .one (.ro kGDirective)), (1, .one (.sc (.str))), (5, .one (.sc (.bool))), (6, .one (.sc (.str))), (7, .one (.sc (.bool))), (8, .one (.sc (.bool)))], feluccalaw05_TextBack_L0⟩ 0 (lp feluccalaw05_TextBack_c 0) x := by kernel_rfl
theorem feluccalaw05_TextBack_eq (k : Nat) (x : (List GDirective) × ByteArray) : feluccalaw05_TextBack k x = runF feluccalaw05_TextBack_X k feluccalaw05_TextBack_c [.one (.row 27 kGDirective), .one (.sc (.str))] x := by kernel_rfl
noncomputable def feluccalaw05_TextBack_e (k : Nat) : Ent Tryd.prog := ⟨8, [.one (.row 27 kGDirective), .one (.sc (.str))], [.one (.sc (.bool))], feluccalaw05_TextBack k, calls_of (X := feluccalaw05_TextBack_X) (k := k) (c := feluccalaw05_TextBack_c) Tryd.func8 (by kernel_rfl) (by kernel_rfl) (by kernel_rfl) (LoopEqs.all (show LoopEqs feluccalaw05_TextBack_X feluccalaw05_TextBack_c feluccalaw05_TextBack_X.L 0 from ⟨⟨fun _ => rfl, fun k x => feluccalaw05_TextBack_L0_eq k x⟩, trivial⟩)) (fun x => feluccalaw05_TextBack_eq k x), fun _ _ => by kernel_rfl⟩
/-! felucca/feluccalaw05.TextLines -/
noncomputable def feluccalaw05_TextLines_c : Code := Tryd.f9.body.getD .skip
def feluccalaw05_TextLines_L0 : Nat → (Bool × (Int × Int) × (List Int) × Bool × (List ByteArray) × Int) → Option ((Bool × Bool) ⊕ (Bool))
  | 0, _ => none
  | k + 1, (head, f, n, had, rows, i) =>
  bif decide (i < Int.ofNat (List.length n)) then
    bif decide (0 ≤ i) then
      bif decide (i < Int.ofNat (List.length n)) then
        bif decide (List.getD n (Int.toNat i) 0 < 1) then
          some (Sum.inr false)
        else
          bif decide (0 ≤ i) then
            bif decide (i < Int.ofNat (List.length n)) then
              bif decide (Int.ofNat (List.length rows) < List.getD n (Int.toNat i) 0) then
                some (Sum.inr false)
              else
                bif decide (0 ≤ i) then
                  bif decide (i < Int.ofNat (List.length n)) then
                    bif decide (0 ≤ w64 (List.getD n (Int.toNat i) 0 - 1)) then
                      bif decide (w64 (List.getD n (Int.toNat i) 0 - 1) < Int.ofNat (List.length rows)) then
                        (words_Words k (List.getD rows (Int.toNat (w64 (List.getD n (Int.toNat i) 0 - 1))) (⟨#[]⟩ : ByteArray))).bind fun o_12 =>
                          (direct_Parse k o_12).bind fun o_13 =>
                            bif decide (0 ≤ i) then
                              bif decide (i < Int.ofNat (List.length n)) then
                                bif decide (List.getD n (Int.toNat i) 0 < f.1) then
                                  bif !decide (o_13.2 = 0) then
                                    some (Sum.inr false)
                                  else
                                    bif decide (0 ≤ i) then
                                      bif decide (i < Int.ofNat (List.length n)) then
                                        bif decide (List.getD n (Int.toNat i) 0 = f.1) then
                                          bif decide (o_13.2 = f.2) then
                                            feluccalaw05_TextLines_L0 k (head, f, n, true, rows, w64 (i + 1))
                                          else
                                            feluccalaw05_TextLines_L0 k (head, f, n, false, rows, w64 (i + 1))
                                        else
                                          feluccalaw05_TextLines_L0 k (head, f, n, had, rows, w64 (i + 1))
                                      else
                                        none
                                    else
                                      none
                                else
                                  bif decide (0 ≤ i) then
                                    bif decide (i < Int.ofNat (List.length n)) then
                                      bif decide (List.getD n (Int.toNat i) 0 = f.1) then
                                        bif decide (o_13.2 = f.2) then
                                          feluccalaw05_TextLines_L0 k (head, f, n, true, rows, w64 (i + 1))
                                        else
                                          feluccalaw05_TextLines_L0 k (head, f, n, false, rows, w64 (i + 1))
                                      else
                                        feluccalaw05_TextLines_L0 k (head, f, n, had, rows, w64 (i + 1))
                                    else
                                      none
                                  else
                                    none
                              else
                                none
                            else
                              none
                      else
                        none
                    else
                      none
                  else
                    none
                else
                  none
            else
              none
          else
            none
      else
        none
    else
      none
  else
    some (Sum.inl (head, had))
def feluccalaw05_TextLines (k : Nat) : ByteArray → Option (Bool) := fun (s) =>
  (feluccalaw05_small k ()).bind fun o_1 =>
    bif o_1 then
      bif decide (2000 < Int.ofNat (ByteArray.size s)) then
        some (true)
      else
        (text_Parse k s).bind fun o_4 =>
          (text_Lines k s).bind fun o_5 =>
            bif decide (o_4.2.2 = 0) then
              bif decide (Int.ofNat (List.length o_4.1) = Int.ofNat (List.length o_5)) then
                some (true)
              else
                some (false)
            else
              (words_Lines k s).bind fun o_7 =>
                (feluccalaw05_TextLines_L0 k (true, o_4.2, o_5, false, o_7, 0)).bind fun o_8 =>
                  match o_8 with
                  | .inl o_9 =>
                    bif o_9.1 then
                      bif o_9.2 then
                        some (true)
                      else
                        some (false)
                    else
                      some (false)
                  | .inr o_9 =>
                    some (o_9)
    else
      bif decide (2000 < Int.ofNat (ByteArray.size s)) then
        some (false)
      else
        (text_Parse k s).bind fun o_4 =>
          (text_Lines k s).bind fun o_5 =>
            bif decide (o_4.2.2 = 0) then
              some (false)
            else
              (words_Lines k s).bind fun o_7 =>
                (feluccalaw05_TextLines_L0 k (false, o_4.2, o_5, false, o_7, 0)).bind fun o_8 =>
                  match o_8 with
                  | .inl o_9 =>
                    bif o_9.1 then
                      bif o_9.2 then
                        some (true)
                      else
                        some (false)
                    else
                      some (false)
                  | .inr o_9 =>
                    some (o_9)
noncomputable def feluccalaw05_TextLines_X : Cx Tryd.prog [.one (.sc (.bool))] := ⟨fun k => ⟨[direct_Parse_e k, feluccalaw05_small_e k, text_Parse_e k, text_Lines_e k, words_Lines_e k, words_Words_e k], [], [hkStr Tryd.prog]⟩, Tryd.f9.ntmps, Tryd.f9.results, [some ⟨0, [(3, .one (.sc (.bool))), (5, .box 58 [.sc (.int .i64), .sc (.int .i64)]), (6, .one (.own 3 [.int .i64])), (7, .one (.sc (.bool))), (8, .one (.own 9 [.str])), (9, .one (.sc (.int .i64)))], [(3, .one (.sc (.bool))), (7, .one (.sc (.bool)))], feluccalaw05_TextLines_L0⟩]⟩
theorem feluccalaw05_TextLines_L0_eq (k : Nat) (x : Bool × (Int × Int) × (List Int) × Bool × (List ByteArray) × Int) : feluccalaw05_TextLines_L0 (k + 1) x = roundF feluccalaw05_TextLines_X k ⟨0, [(3, .one (.sc (.bool))), (5, .box 58 [.sc (.int .i64), .sc (.int .i64)]), (6, .one (.own 3 [.int .i64])), (7, .one (.sc (.bool))), (8, .one (.own 9 [.str])), (9, .one (.sc (.int .i64)))], [(3, .one (.sc (.bool))), (7, .one (.sc (.bool)))], feluccalaw05_TextLines_L0⟩ 0 (lp feluccalaw05_TextLines_c 0) x := by kernel_rfl
theorem feluccalaw05_TextLines_eq (k : Nat) (x : ByteArray) : feluccalaw05_TextLines k x = runF feluccalaw05_TextLines_X k feluccalaw05_TextLines_c [.one (.sc (.str))] x := by kernel_rfl
noncomputable def feluccalaw05_TextLines_e (k : Nat) : Ent Tryd.prog := ⟨9, [.one (.sc (.str))], [.one (.sc (.bool))], feluccalaw05_TextLines k, calls_of (X := feluccalaw05_TextLines_X) (k := k) (c := feluccalaw05_TextLines_c) Tryd.func9 (by kernel_rfl) (by kernel_rfl) (by kernel_rfl) (LoopEqs.all (show LoopEqs feluccalaw05_TextLines_X feluccalaw05_TextLines_c feluccalaw05_TextLines_X.L 0 from ⟨⟨fun _ => rfl, fun k x => feluccalaw05_TextLines_L0_eq k x⟩, trivial⟩)) (fun x => feluccalaw05_TextLines_eq k x), fun _ _ => by kernel_rfl⟩
/-! felucca/feluccalaw05.TextJoins -/
noncomputable def feluccalaw05_TextJoins_c : Code := Tryd.f10.body.getD .skip
def feluccalaw05_TextJoins (k : Nat) : (ByteArray × ByteArray) → Option (Bool) := fun (s, t) =>
  (feluccalaw05_small k ()).bind fun o_1 =>
    bif o_1 then
      bif decide (1000 < Int.ofNat (ByteArray.size s)) then
        some (true)
      else
        bif decide (1000 < Int.ofNat (ByteArray.size t)) then
          some (true)
        else
          bif decide (ByteArray.size s + ByteArray.size (⟨#[10]⟩ : ByteArray) ≤ 9223372036854775807) then
            (text_Parse k (s ++ (⟨#[10]⟩ : ByteArray))).bind fun o_6 =>
              (text_Parse k t).bind fun o_7 =>
                bif decide (ByteArray.size s + ByteArray.size (⟨#[10]⟩ : ByteArray) ≤ 9223372036854775807) then
                  bif decide (ByteArray.size (s ++ (⟨#[10]⟩ : ByteArray)) + ByteArray.size t ≤ 9223372036854775807) then
                    (text_Parse k (s ++ (⟨#[10]⟩ : ByteArray) ++ t)).bind fun o_10 =>
                      bif !decide (o_6.2.2 = 0) then
                        bif o_10.2.1 == o_6.2.1 && o_10.2.2 == o_6.2.2 then
                          bif decide (Int.ofNat (List.length o_10.1) = 0) then
                            some (true)
                          else
                            some (false)
                        else
                          some (false)
                      else
                        bif !decide (o_7.2.2 = 0) then
                          bif decide (o_10.2.2 = o_7.2.2) then
                            bif decide (ByteArray.size s + ByteArray.size (⟨#[10]⟩ : ByteArray) ≤ 9223372036854775807) then
                              (words_Lines k (s ++ (⟨#[10]⟩ : ByteArray))).bind fun o_15 =>
                                bif decide (o_10.2.1 = w64 (o_7.2.1 + Int.ofNat (List.length o_15))) then
                                  some (true)
                                else
                                  some (false)
                            else
                              none
                          else
                            some (false)
                        else
                          bif o_10.2.1 == 0 && o_10.2.2 == 0 then
                            bif decide ((0 + List.length o_6.1) * 104 ≤ 140737488355328) then
                              bif decide ((List.length o_6.1 + List.length o_7.1) * 104 ≤ 140737488355328) then
                                (feluccaref05_Same k (o_10.1, o_6.1 ++ o_7.1)).bind fun o_16 =>
                                  bif o_16 then
                                    some (true)
                                  else
                                    some (false)
                              else
                                none
                            else
                              none
                          else
                            some (false)
                  else
                    none
                else
                  none
          else
            none
    else
      bif decide (1000 < Int.ofNat (ByteArray.size s)) then
        some (false)
      else
        bif decide (1000 < Int.ofNat (ByteArray.size t)) then
          some (false)
        else
          bif decide (ByteArray.size s + ByteArray.size (⟨#[10]⟩ : ByteArray) ≤ 9223372036854775807) then
            (text_Parse k (s ++ (⟨#[10]⟩ : ByteArray))).bind fun o_6 =>
              (text_Parse k t).bind fun o_7 =>
                bif decide (ByteArray.size s + ByteArray.size (⟨#[10]⟩ : ByteArray) ≤ 9223372036854775807) then
                  bif decide (ByteArray.size (s ++ (⟨#[10]⟩ : ByteArray)) + ByteArray.size t ≤ 9223372036854775807) then
                    (text_Parse k (s ++ (⟨#[10]⟩ : ByteArray) ++ t)).bind fun o_10 =>
                      bif !decide (o_6.2.2 = 0) then
                        some (false)
                      else
                        bif !decide (o_7.2.2 = 0) then
                          some (false)
                        else
                          some (false)
                  else
                    none
                else
                  none
          else
            none
noncomputable def feluccalaw05_TextJoins_X : Cx Tryd.prog [.one (.sc (.bool))] := ⟨fun k => ⟨[feluccalaw05_small_e k, text_Parse_e k, feluccaref05_Same_e k, words_Lines_e k], [], [hkStr Tryd.prog]⟩, Tryd.f10.ntmps, Tryd.f10.results, []⟩
theorem feluccalaw05_TextJoins_eq (k : Nat) (x : ByteArray × ByteArray) : feluccalaw05_TextJoins k x = runF feluccalaw05_TextJoins_X k feluccalaw05_TextJoins_c [.one (.sc (.str)), .one (.sc (.str))] x := by kernel_rfl
noncomputable def feluccalaw05_TextJoins_e (k : Nat) : Ent Tryd.prog := ⟨10, [.one (.sc (.str)), .one (.sc (.str))], [.one (.sc (.bool))], feluccalaw05_TextJoins k, calls_of (X := feluccalaw05_TextJoins_X) (k := k) (c := feluccalaw05_TextJoins_c) Tryd.func10 (by kernel_rfl) (by kernel_rfl) (by kernel_rfl) (LoopEqs.all (show LoopEqs feluccalaw05_TextJoins_X feluccalaw05_TextJoins_c feluccalaw05_TextJoins_X.L 0 from trivial)) (fun x => feluccalaw05_TextJoins_eq k x), fun _ _ => by kernel_rfl⟩
/-! felucca/feluccalaw05.TextBlank -/
noncomputable def feluccalaw05_TextBlank_c : Code := Tryd.f11.body.getD .skip
def feluccalaw05_TextBlank_L1 : Nat → (ByteArray × ByteArray × Int × Bool × (List ByteArray) × ByteArray × Int) → Option ((ByteArray × Int × Bool × ByteArray) ⊕ (Bool))
  | 0, _ => none
  | k + 1, (s, remark, k2, head, l, t, i) =>
  bif decide (i ≤ Int.ofNat (List.length l)) then
    bif decide (i = k2) then
      bif decide (ByteArray.size t + ByteArray.size (⟨#[32, 35, 32]⟩ : ByteArray) ≤ 9223372036854775807) then
        bif decide (ByteArray.size (t ++ (⟨#[32, 35, 32]⟩ : ByteArray)) + ByteArray.size remark ≤ 9223372036854775807) then
          bif decide (ByteArray.size (t ++ (⟨#[32, 35, 32]⟩ : ByteArray) ++ remark) + ByteArray.size (⟨#[10, 10]⟩ : ByteArray) ≤ 9223372036854775807) then
            bif decide (i < Int.ofNat (List.length l)) then
              bif decide (0 ≤ i) then
                bif decide (i < Int.ofNat (List.length l)) then
                  bif decide (ByteArray.size (t ++ (⟨#[32, 35, 32]⟩ : ByteArray) ++ remark ++ (⟨#[10, 10]⟩ : ByteArray)) + ByteArray.size (List.getD l (Int.toNat i) (⟨#[]⟩ : ByteArray)) ≤ 9223372036854775807) then
                    bif decide (ByteArray.size (t ++ (⟨#[32, 35, 32]⟩ : ByteArray) ++ remark ++ (⟨#[10, 10]⟩ : ByteArray) ++ List.getD l (Int.toNat i) (⟨#[]⟩ : ByteArray)) + ByteArray.size (⟨#[10]⟩ : ByteArray) ≤ 9223372036854775807) then
                      feluccalaw05_TextBlank_L1 k (s, remark, k2, head, l, t ++ (⟨#[32, 35, 32]⟩ : ByteArray) ++ remark ++ (⟨#[10, 10]⟩ : ByteArray) ++ List.getD l (Int.toNat i) (⟨#[]⟩ : ByteArray) ++ (⟨#[10]⟩ : ByteArray), w64 (i + 1))
                    else
                      none
                  else
                    none
                else
                  none
              else
                none
            else
              feluccalaw05_TextBlank_L1 k (s, remark, k2, head, l, t ++ (⟨#[32, 35, 32]⟩ : ByteArray) ++ remark ++ (⟨#[10, 10]⟩ : ByteArray), w64 (i + 1))
          else
            none
        else
          none
      else
        none
    else
      bif decide (i < Int.ofNat (List.length l)) then
        bif decide (0 ≤ i) then
          bif decide (i < Int.ofNat (List.length l)) then
            bif decide (ByteArray.size t + ByteArray.size (List.getD l (Int.toNat i) (⟨#[]⟩ : ByteArray)) ≤ 9223372036854775807) then
              bif decide (ByteArray.size (t ++ List.getD l (Int.toNat i) (⟨#[]⟩ : ByteArray)) + ByteArray.size (⟨#[10]⟩ : ByteArray) ≤ 9223372036854775807) then
                feluccalaw05_TextBlank_L1 k (s, remark, k2, head, l, t ++ List.getD l (Int.toNat i) (⟨#[]⟩ : ByteArray) ++ (⟨#[10]⟩ : ByteArray), w64 (i + 1))
              else
                none
            else
              none
          else
            none
        else
          none
      else
        feluccalaw05_TextBlank_L1 k (s, remark, k2, head, l, t, w64 (i + 1))
  else
    some (Sum.inl (s, k2, head, t))
def feluccalaw05_TextBlank_L0 : Nat → (ByteArray × ByteArray × Int × Bool × (List ByteArray) × Int) → Option ((ByteArray × ByteArray × Int × Bool × (List ByteArray)) ⊕ (Bool))
  | 0, _ => none
  | k + 1, (s, remark, k2, head, l, i) =>
  bif decide (i < Int.ofNat (ByteArray.size remark)) then
    bif decide (0 ≤ i) && decide (i < Int.ofNat (ByteArray.size remark)) then
      bif decide (byteI remark i = 10) then
        bif head then
          some (Sum.inr true)
        else
          some (Sum.inr false)
      else
        feluccalaw05_TextBlank_L0 k (s, remark, k2, head, l, w64 (i + 1))
    else
      none
  else
    some (Sum.inl (s, remark, k2, head, l))
def feluccalaw05_TextBlank (k : Nat) : (ByteArray × ByteArray × Int) → Option (Bool) := fun (s, remark, k2) =>
  (feluccalaw05_small k ()).bind fun o_1 =>
    bif o_1 then
      (words_Lines k s).bind fun o_3 =>
        bif decide (1000 < Int.ofNat (ByteArray.size s)) then
          some (true)
        else
          bif decide (100 < Int.ofNat (ByteArray.size remark)) then
            some (true)
          else
            bif decide (k2 < 0) then
              some (true)
            else
              bif decide (Int.ofNat (List.length o_3) < k2) then
                some (true)
              else
                (feluccalaw05_TextBlank_L0 k (s, remark, k2, true, o_3, 0)).bind fun o_8 =>
                  match o_8 with
                  | .inl o_9 =>
                    (feluccalaw05_TextBlank_L1 k (o_9.1, o_9.2.1, o_9.2.2.1, o_9.2.2.2.1, o_9.2.2.2.2, (⟨#[]⟩ : ByteArray), 0)).bind fun o_10 =>
                      match o_10 with
                      | .inl o_11 =>
                        (text_Parse k o_11.1).bind fun o_12 =>
                          (text_Parse k o_11.2.2.2).bind fun o_13 =>
                            bif decide (o_11.2.1 < o_12.2.1) then
                              bif o_11.2.2.1 then
                                (feluccaref05_Same k (o_12.1, o_13.1)).bind fun o_16 =>
                                  bif o_16 then
                                    bif w64 (o_12.2.1 + 2) == o_13.2.1 && o_12.2.2 == o_13.2.2 then
                                      (text_Lines k o_11.2.2.2).bind fun o_19 =>
                                        (text_Lines k o_11.1).bind fun o_20 =>
                                          bif decide (Int.ofNat (List.length o_19) = Int.ofNat (List.length o_20)) then
                                            some (true)
                                          else
                                            some (false)
                                    else
                                      some (false)
                                  else
                                    some (false)
                              else
                                some (false)
                            else
                              bif o_11.2.2.1 then
                                (feluccaref05_Same k (o_12.1, o_13.1)).bind fun o_16 =>
                                  bif o_16 then
                                    bif o_12.2.1 == o_13.2.1 && o_12.2.2 == o_13.2.2 then
                                      (text_Lines k o_11.2.2.2).bind fun o_19 =>
                                        (text_Lines k o_11.1).bind fun o_20 =>
                                          bif decide (Int.ofNat (List.length o_19) = Int.ofNat (List.length o_20)) then
                                            some (true)
                                          else
                                            some (false)
                                    else
                                      some (false)
                                  else
                                    some (false)
                              else
                                some (false)
                      | .inr o_11 =>
                        some (o_11)
                  | .inr o_9 =>
                    some (o_9)
    else
      (words_Lines k s).bind fun o_3 =>
        bif decide (1000 < Int.ofNat (ByteArray.size s)) then
          some (false)
        else
          bif decide (100 < Int.ofNat (ByteArray.size remark)) then
            some (false)
          else
            bif decide (k2 < 0) then
              some (false)
            else
              bif decide (Int.ofNat (List.length o_3) < k2) then
                some (false)
              else
                (feluccalaw05_TextBlank_L0 k (s, remark, k2, false, o_3, 0)).bind fun o_8 =>
                  match o_8 with
                  | .inl o_9 =>
                    (feluccalaw05_TextBlank_L1 k (o_9.1, o_9.2.1, o_9.2.2.1, o_9.2.2.2.1, o_9.2.2.2.2, (⟨#[]⟩ : ByteArray), 0)).bind fun o_10 =>
                      match o_10 with
                      | .inl o_11 =>
                        (text_Parse k o_11.1).bind fun o_12 =>
                          (text_Parse k o_11.2.2.2).bind fun o_13 =>
                            bif decide (o_11.2.1 < o_12.2.1) then
                              bif o_11.2.2.1 then
                                (feluccaref05_Same k (o_12.1, o_13.1)).bind fun o_16 =>
                                  bif o_16 then
                                    bif w64 (o_12.2.1 + 2) == o_13.2.1 && o_12.2.2 == o_13.2.2 then
                                      (text_Lines k o_11.2.2.2).bind fun o_19 =>
                                        (text_Lines k o_11.1).bind fun o_20 =>
                                          bif decide (Int.ofNat (List.length o_19) = Int.ofNat (List.length o_20)) then
                                            some (true)
                                          else
                                            some (false)
                                    else
                                      some (false)
                                  else
                                    some (false)
                              else
                                some (false)
                            else
                              bif o_11.2.2.1 then
                                (feluccaref05_Same k (o_12.1, o_13.1)).bind fun o_16 =>
                                  bif o_16 then
                                    bif o_12.2.1 == o_13.2.1 && o_12.2.2 == o_13.2.2 then
                                      (text_Lines k o_11.2.2.2).bind fun o_19 =>
                                        (text_Lines k o_11.1).bind fun o_20 =>
                                          bif decide (Int.ofNat (List.length o_19) = Int.ofNat (List.length o_20)) then
                                            some (true)
                                          else
                                            some (false)
                                    else
                                      some (false)
                                  else
                                    some (false)
                              else
                                some (false)
                      | .inr o_11 =>
                        some (o_11)
                  | .inr o_9 =>
                    some (o_9)
noncomputable def feluccalaw05_TextBlank_X : Cx Tryd.prog [.one (.sc (.bool))] := ⟨fun k => ⟨[feluccalaw05_small_e k, text_Parse_e k, feluccaref05_Same_e k, text_Lines_e k, words_Lines_e k], [], [hkStr Tryd.prog]⟩, Tryd.f11.ntmps, Tryd.f11.results, [some ⟨0, [(0, .one (.sc (.str))), (1, .one (.sc (.str))), (2, .one (.sc (.int .i64))), (7, .one (.sc (.bool))), (8, .one (.own 9 [.str])), (9, .one (.sc (.int .i64)))], [(0, .one (.sc (.str))), (1, .one (.sc (.str))), (2, .one (.sc (.int .i64))), (7, .one (.sc (.bool))), (8, .one (.own 9 [.str]))], feluccalaw05_TextBlank_L0⟩, some ⟨2, [(0, .one (.sc (.str))), (1, .one (.sc (.str))), (2, .one (.sc (.int .i64))), (7, .one (.sc (.bool))), (8, .one (.own 9 [.str])), (10, .one (.sc (.str))), (11, .one (.sc (.int .i64)))], [(0, .one (.sc (.str))), (2, .one (.sc (.int .i64))), (7, .one (.sc (.bool))), (10, .one (.sc (.str)))], feluccalaw05_TextBlank_L1⟩]⟩
theorem feluccalaw05_TextBlank_L1_eq (k : Nat) (x : ByteArray × ByteArray × Int × Bool × (List ByteArray) × ByteArray × Int) : feluccalaw05_TextBlank_L1 (k + 1) x = roundF feluccalaw05_TextBlank_X k ⟨2, [(0, .one (.sc (.str))), (1, .one (.sc (.str))), (2, .one (.sc (.int .i64))), (7, .one (.sc (.bool))), (8, .one (.own 9 [.str])), (10, .one (.sc (.str))), (11, .one (.sc (.int .i64)))], [(0, .one (.sc (.str))), (2, .one (.sc (.int .i64))), (7, .one (.sc (.bool))), (10, .one (.sc (.str)))], feluccalaw05_TextBlank_L1⟩ 1 (lp feluccalaw05_TextBlank_c 1) x := by kernel_rfl
theorem feluccalaw05_TextBlank_L0_eq (k : Nat) (x : ByteArray × ByteArray × Int × Bool × (List ByteArray) × Int) : feluccalaw05_TextBlank_L0 (k + 1) x = roundF feluccalaw05_TextBlank_X k ⟨0, [(0, .one (.sc (.str))), (1, .one (.sc (.str))), (2, .one (.sc (.int .i64))), (7, .one (.sc (.bool))), (8, .one (.own 9 [.str])), (9, .one (.sc (.int .i64)))], [(0, .one (.sc (.str))), (1, .one (.sc (.str))), (2, .one (.sc (.int .i64))), (7, .one (.sc (.bool))), (8, .one (.own 9 [.str]))], feluccalaw05_TextBlank_L0⟩ 0 (lp feluccalaw05_TextBlank_c 0) x := by kernel_rfl
theorem feluccalaw05_TextBlank_eq (k : Nat) (x : ByteArray × ByteArray × Int) : feluccalaw05_TextBlank k x = runF feluccalaw05_TextBlank_X k feluccalaw05_TextBlank_c [.one (.sc (.str)), .one (.sc (.str)), .one (.sc (.int .i64))] x := by kernel_rfl
noncomputable def feluccalaw05_TextBlank_e (k : Nat) : Ent Tryd.prog := ⟨11, [.one (.sc (.str)), .one (.sc (.str)), .one (.sc (.int .i64))], [.one (.sc (.bool))], feluccalaw05_TextBlank k, calls_of (X := feluccalaw05_TextBlank_X) (k := k) (c := feluccalaw05_TextBlank_c) Tryd.func11 (by kernel_rfl) (by kernel_rfl) (by kernel_rfl) (LoopEqs.all (show LoopEqs feluccalaw05_TextBlank_X feluccalaw05_TextBlank_c feluccalaw05_TextBlank_X.L 0 from ⟨⟨fun _ => rfl, fun k x => feluccalaw05_TextBlank_L0_eq k x⟩, ⟨⟨fun _ => rfl, fun k x => feluccalaw05_TextBlank_L1_eq k x⟩, trivial⟩⟩)) (fun x => feluccalaw05_TextBlank_eq k x), fun _ _ => by kernel_rfl⟩
/-! felucca/feluccalaw04.small -/
noncomputable def feluccalaw04_small_c : Code := Tryd.f13.body.getD .skip
def feluccalaw04_small (_k : Nat) : Unit → Option (Bool) := fun _ => some true
noncomputable def feluccalaw04_small_X : Cx Tryd.prog [.one (.sc (.bool))] := ⟨fun k => ⟨[direct_Words_e k, direct_Parse_e k, direct_Right_e k, feluccaref02_Same_e k], [], [hkStr Tryd.prog]⟩, Tryd.f13.ntmps, Tryd.f13.results, []⟩
theorem feluccalaw04_small_eq (x : Unit) : feluccalaw04_small 0 x = runF feluccalaw04_small_X 100 feluccalaw04_small_c [] x := by kernel_rfl
noncomputable def feluccalaw04_small_e (k : Nat) : Ent Tryd.prog := ⟨13, [], [.one (.sc (.bool))], feluccalaw04_small k, calls_of (X := feluccalaw04_small_X) (k := 100) (c := feluccalaw04_small_c) Tryd.func13 (by kernel_rfl) (by kernel_rfl) (by kernel_rfl) (LoopEqs.all (show LoopEqs feluccalaw04_small_X feluccalaw04_small_c feluccalaw04_small_X.L 0 from trivial)) (fun x => feluccalaw04_small_eq x), fun _ _ => by kernel_rfl⟩
/-! felucca/feluccalaw04.DirectTells -/
noncomputable def feluccalaw04_DirectTells_c : Code := Tryd.f3.body.getD .skip
def feluccalaw04_DirectTells_L0 : Nat → ((List ByteArray) × GDirective × Bool × Int) → Option (((List ByteArray) × GDirective × Bool) ⊕ (Bool))
  | 0, _ => none
  | k + 1, (l, d, head, i) =>
  bif decide (i < Int.ofNat (List.length l)) then
    bif decide (0 ≤ i) then
      bif decide (i < Int.ofNat (List.length l)) then
        bif decide (100 < Int.ofNat (ByteArray.size (List.getD l (Int.toNat i) (⟨#[]⟩ : ByteArray)))) then
          bif head then
            some (Sum.inr true)
          else
            some (Sum.inr false)
        else
          feluccalaw04_DirectTells_L0 k (l, d, head, w64 (i + 1))
      else
        none
    else
      none
  else
    some (Sum.inl (l, d, head))
def feluccalaw04_DirectTells (k : Nat) : (GDirective × (List ByteArray)) → Option (Bool) := fun (d, l) =>
  (feluccalaw04_small k ()).bind fun o_1 =>
    bif o_1 then
      bif decide (50 < Int.ofNat (List.length l)) then
        some (true)
      else
        (feluccalaw04_DirectTells_L0 k (l, d, true, 0)).bind fun o_4 =>
          match o_4 with
          | .inl o_5 =>
            (direct_Words k o_5.2.1).bind fun o_6 =>
              bif o_6.2 then
                (feluccaref04_Words k o_5.2.1).bind fun o_8 =>
                  bif o_8.2 then
                    (direct_Parse k o_5.1).bind fun o_10 =>
                      (feluccaref04_Parse k o_5.1).bind fun o_11 =>
                        bif o_5.2.2 then
                          (direct_Right k o_5.2.1).bind fun o_13 =>
                            bif o_13 then
                              (feluccaref04_Right k o_5.2.1).bind fun o_15 =>
                                bif o_15 then
                                  (feluccaref02_Same k (o_6.1, o_8.1)).bind fun o_17 =>
                                    bif o_17 then
                                      bif o_10.1.1 == o_11.1.1 && (o_10.1.2.1 == o_11.1.2.1 && (o_10.1.2.2.1 == o_11.1.2.2.1 && (o_10.1.2.2.2.1 == o_11.1.2.2.2.1 && (o_10.1.2.2.2.2.1 == o_11.1.2.2.2.2.1 && (o_10.1.2.2.2.2.2.1 == o_11.1.2.2.2.2.2.1 && (o_10.1.2.2.2.2.2.2.1 == o_11.1.2.2.2.2.2.2.1 && o_10.1.2.2.2.2.2.2.2.1 == o_11.1.2.2.2.2.2.2.2.1)))) && (o_10.1.2.2.2.2.2.2.2.2.1 == o_11.1.2.2.2.2.2.2.2.2.1 && (o_10.1.2.2.2.2.2.2.2.2.2.1 == o_11.1.2.2.2.2.2.2.2.2.2.1 && (o_10.1.2.2.2.2.2.2.2.2.2.2.1 == o_11.1.2.2.2.2.2.2.2.2.2.2.1 && (o_10.1.2.2.2.2.2.2.2.2.2.2.2.1 == o_11.1.2.2.2.2.2.2.2.2.2.2.2.1 && o_10.1.2.2.2.2.2.2.2.2.2.2.2.2 == o_11.1.2.2.2.2.2.2.2.2.2.2.2.2)))))) then
                                        bif decide (o_10.2 = o_11.2) then
                                          some (true)
                                        else
                                          some (false)
                                      else
                                        some (false)
                                    else
                                      some (false)
                                else
                                  some (false)
                            else
                              (feluccaref04_Right k o_5.2.1).bind fun o_15 =>
                                bif o_15 then
                                  some (false)
                                else
                                  (feluccaref02_Same k (o_6.1, o_8.1)).bind fun o_17 =>
                                    bif o_17 then
                                      bif o_10.1.1 == o_11.1.1 && (o_10.1.2.1 == o_11.1.2.1 && (o_10.1.2.2.1 == o_11.1.2.2.1 && (o_10.1.2.2.2.1 == o_11.1.2.2.2.1 && (o_10.1.2.2.2.2.1 == o_11.1.2.2.2.2.1 && (o_10.1.2.2.2.2.2.1 == o_11.1.2.2.2.2.2.1 && (o_10.1.2.2.2.2.2.2.1 == o_11.1.2.2.2.2.2.2.1 && o_10.1.2.2.2.2.2.2.2.1 == o_11.1.2.2.2.2.2.2.2.1)))) && (o_10.1.2.2.2.2.2.2.2.2.1 == o_11.1.2.2.2.2.2.2.2.2.1 && (o_10.1.2.2.2.2.2.2.2.2.2.1 == o_11.1.2.2.2.2.2.2.2.2.2.1 && (o_10.1.2.2.2.2.2.2.2.2.2.2.1 == o_11.1.2.2.2.2.2.2.2.2.2.2.1 && (o_10.1.2.2.2.2.2.2.2.2.2.2.2.1 == o_11.1.2.2.2.2.2.2.2.2.2.2.2.1 && o_10.1.2.2.2.2.2.2.2.2.2.2.2.2 == o_11.1.2.2.2.2.2.2.2.2.2.2.2.2)))))) then
                                        bif decide (o_10.2 = o_11.2) then
                                          some (true)
                                        else
                                          some (false)
                                      else
                                        some (false)
                                    else
                                      some (false)
                        else
                          some (false)
                  else
                    (direct_Parse k o_5.1).bind fun o_10 =>
                      (feluccaref04_Parse k o_5.1).bind fun o_11 =>
                        bif o_5.2.2 then
                          (direct_Right k o_5.2.1).bind fun o_13 =>
                            bif o_13 then
                              (feluccaref04_Right k o_5.2.1).bind fun o_15 =>
                                bif o_15 then
                                  (feluccaref02_Same k (o_6.1, o_8.1)).bind fun o_17 =>
                                    bif o_17 then
                                      some (false)
                                    else
                                      some (false)
                                else
                                  some (false)
                            else
                              (feluccaref04_Right k o_5.2.1).bind fun o_15 =>
                                bif o_15 then
                                  some (false)
                                else
                                  (feluccaref02_Same k (o_6.1, o_8.1)).bind fun o_17 =>
                                    bif o_17 then
                                      some (false)
                                    else
                                      some (false)
                        else
                          some (false)
              else
                (feluccaref04_Words k o_5.2.1).bind fun o_8 =>
                  bif o_8.2 then
                    (direct_Parse k o_5.1).bind fun o_10 =>
                      (feluccaref04_Parse k o_5.1).bind fun o_11 =>
                        bif o_5.2.2 then
                          (direct_Right k o_5.2.1).bind fun o_13 =>
                            bif o_13 then
                              (feluccaref04_Right k o_5.2.1).bind fun o_15 =>
                                bif o_15 then
                                  (feluccaref02_Same k (o_6.1, o_8.1)).bind fun o_17 =>
                                    bif o_17 then
                                      some (false)
                                    else
                                      some (false)
                                else
                                  some (false)
                            else
                              (feluccaref04_Right k o_5.2.1).bind fun o_15 =>
                                bif o_15 then
                                  some (false)
                                else
                                  (feluccaref02_Same k (o_6.1, o_8.1)).bind fun o_17 =>
                                    bif o_17 then
                                      some (false)
                                    else
                                      some (false)
                        else
                          some (false)
                  else
                    (direct_Parse k o_5.1).bind fun o_10 =>
                      (feluccaref04_Parse k o_5.1).bind fun o_11 =>
                        bif o_5.2.2 then
                          (direct_Right k o_5.2.1).bind fun o_13 =>
                            bif o_13 then
                              (feluccaref04_Right k o_5.2.1).bind fun o_15 =>
                                bif o_15 then
                                  (feluccaref02_Same k (o_6.1, o_8.1)).bind fun o_17 =>
                                    bif o_17 then
                                      bif o_10.1.1 == o_11.1.1 && (o_10.1.2.1 == o_11.1.2.1 && (o_10.1.2.2.1 == o_11.1.2.2.1 && (o_10.1.2.2.2.1 == o_11.1.2.2.2.1 && (o_10.1.2.2.2.2.1 == o_11.1.2.2.2.2.1 && (o_10.1.2.2.2.2.2.1 == o_11.1.2.2.2.2.2.1 && (o_10.1.2.2.2.2.2.2.1 == o_11.1.2.2.2.2.2.2.1 && o_10.1.2.2.2.2.2.2.2.1 == o_11.1.2.2.2.2.2.2.2.1)))) && (o_10.1.2.2.2.2.2.2.2.2.1 == o_11.1.2.2.2.2.2.2.2.2.1 && (o_10.1.2.2.2.2.2.2.2.2.2.1 == o_11.1.2.2.2.2.2.2.2.2.2.1 && (o_10.1.2.2.2.2.2.2.2.2.2.2.1 == o_11.1.2.2.2.2.2.2.2.2.2.2.1 && (o_10.1.2.2.2.2.2.2.2.2.2.2.2.1 == o_11.1.2.2.2.2.2.2.2.2.2.2.2.1 && o_10.1.2.2.2.2.2.2.2.2.2.2.2.2 == o_11.1.2.2.2.2.2.2.2.2.2.2.2.2)))))) then
                                        bif decide (o_10.2 = o_11.2) then
                                          some (true)
                                        else
                                          some (false)
                                      else
                                        some (false)
                                    else
                                      some (false)
                                else
                                  some (false)
                            else
                              (feluccaref04_Right k o_5.2.1).bind fun o_15 =>
                                bif o_15 then
                                  some (false)
                                else
                                  (feluccaref02_Same k (o_6.1, o_8.1)).bind fun o_17 =>
                                    bif o_17 then
                                      bif o_10.1.1 == o_11.1.1 && (o_10.1.2.1 == o_11.1.2.1 && (o_10.1.2.2.1 == o_11.1.2.2.1 && (o_10.1.2.2.2.1 == o_11.1.2.2.2.1 && (o_10.1.2.2.2.2.1 == o_11.1.2.2.2.2.1 && (o_10.1.2.2.2.2.2.1 == o_11.1.2.2.2.2.2.1 && (o_10.1.2.2.2.2.2.2.1 == o_11.1.2.2.2.2.2.2.1 && o_10.1.2.2.2.2.2.2.2.1 == o_11.1.2.2.2.2.2.2.2.1)))) && (o_10.1.2.2.2.2.2.2.2.2.1 == o_11.1.2.2.2.2.2.2.2.2.1 && (o_10.1.2.2.2.2.2.2.2.2.2.1 == o_11.1.2.2.2.2.2.2.2.2.2.1 && (o_10.1.2.2.2.2.2.2.2.2.2.2.1 == o_11.1.2.2.2.2.2.2.2.2.2.2.1 && (o_10.1.2.2.2.2.2.2.2.2.2.2.2.1 == o_11.1.2.2.2.2.2.2.2.2.2.2.2.1 && o_10.1.2.2.2.2.2.2.2.2.2.2.2.2 == o_11.1.2.2.2.2.2.2.2.2.2.2.2.2)))))) then
                                        bif decide (o_10.2 = o_11.2) then
                                          some (true)
                                        else
                                          some (false)
                                      else
                                        some (false)
                                    else
                                      some (false)
                        else
                          some (false)
          | .inr o_5 =>
            some (o_5)
    else
      bif decide (50 < Int.ofNat (List.length l)) then
        some (false)
      else
        (feluccalaw04_DirectTells_L0 k (l, d, false, 0)).bind fun o_4 =>
          match o_4 with
          | .inl o_5 =>
            (direct_Words k o_5.2.1).bind fun o_6 =>
              bif o_6.2 then
                (feluccaref04_Words k o_5.2.1).bind fun o_8 =>
                  bif o_8.2 then
                    (direct_Parse k o_5.1).bind fun o_10 =>
                      (feluccaref04_Parse k o_5.1).bind fun o_11 =>
                        bif o_5.2.2 then
                          (direct_Right k o_5.2.1).bind fun o_13 =>
                            bif o_13 then
                              (feluccaref04_Right k o_5.2.1).bind fun o_15 =>
                                bif o_15 then
                                  (feluccaref02_Same k (o_6.1, o_8.1)).bind fun o_17 =>
                                    bif o_17 then
                                      bif o_10.1.1 == o_11.1.1 && (o_10.1.2.1 == o_11.1.2.1 && (o_10.1.2.2.1 == o_11.1.2.2.1 && (o_10.1.2.2.2.1 == o_11.1.2.2.2.1 && (o_10.1.2.2.2.2.1 == o_11.1.2.2.2.2.1 && (o_10.1.2.2.2.2.2.1 == o_11.1.2.2.2.2.2.1 && (o_10.1.2.2.2.2.2.2.1 == o_11.1.2.2.2.2.2.2.1 && o_10.1.2.2.2.2.2.2.2.1 == o_11.1.2.2.2.2.2.2.2.1)))) && (o_10.1.2.2.2.2.2.2.2.2.1 == o_11.1.2.2.2.2.2.2.2.2.1 && (o_10.1.2.2.2.2.2.2.2.2.2.1 == o_11.1.2.2.2.2.2.2.2.2.2.1 && (o_10.1.2.2.2.2.2.2.2.2.2.2.1 == o_11.1.2.2.2.2.2.2.2.2.2.2.1 && (o_10.1.2.2.2.2.2.2.2.2.2.2.2.1 == o_11.1.2.2.2.2.2.2.2.2.2.2.2.1 && o_10.1.2.2.2.2.2.2.2.2.2.2.2.2 == o_11.1.2.2.2.2.2.2.2.2.2.2.2.2)))))) then
                                        bif decide (o_10.2 = o_11.2) then
                                          some (true)
                                        else
                                          some (false)
                                      else
                                        some (false)
                                    else
                                      some (false)
                                else
                                  some (false)
                            else
                              (feluccaref04_Right k o_5.2.1).bind fun o_15 =>
                                bif o_15 then
                                  some (false)
                                else
                                  (feluccaref02_Same k (o_6.1, o_8.1)).bind fun o_17 =>
                                    bif o_17 then
                                      bif o_10.1.1 == o_11.1.1 && (o_10.1.2.1 == o_11.1.2.1 && (o_10.1.2.2.1 == o_11.1.2.2.1 && (o_10.1.2.2.2.1 == o_11.1.2.2.2.1 && (o_10.1.2.2.2.2.1 == o_11.1.2.2.2.2.1 && (o_10.1.2.2.2.2.2.1 == o_11.1.2.2.2.2.2.1 && (o_10.1.2.2.2.2.2.2.1 == o_11.1.2.2.2.2.2.2.1 && o_10.1.2.2.2.2.2.2.2.1 == o_11.1.2.2.2.2.2.2.2.1)))) && (o_10.1.2.2.2.2.2.2.2.2.1 == o_11.1.2.2.2.2.2.2.2.2.1 && (o_10.1.2.2.2.2.2.2.2.2.2.1 == o_11.1.2.2.2.2.2.2.2.2.2.1 && (o_10.1.2.2.2.2.2.2.2.2.2.2.1 == o_11.1.2.2.2.2.2.2.2.2.2.2.1 && (o_10.1.2.2.2.2.2.2.2.2.2.2.2.1 == o_11.1.2.2.2.2.2.2.2.2.2.2.2.1 && o_10.1.2.2.2.2.2.2.2.2.2.2.2.2 == o_11.1.2.2.2.2.2.2.2.2.2.2.2.2)))))) then
                                        bif decide (o_10.2 = o_11.2) then
                                          some (true)
                                        else
                                          some (false)
                                      else
                                        some (false)
                                    else
                                      some (false)
                        else
                          some (false)
                  else
                    (direct_Parse k o_5.1).bind fun o_10 =>
                      (feluccaref04_Parse k o_5.1).bind fun o_11 =>
                        bif o_5.2.2 then
                          (direct_Right k o_5.2.1).bind fun o_13 =>
                            bif o_13 then
                              (feluccaref04_Right k o_5.2.1).bind fun o_15 =>
                                bif o_15 then
                                  (feluccaref02_Same k (o_6.1, o_8.1)).bind fun o_17 =>
                                    bif o_17 then
                                      some (false)
                                    else
                                      some (false)
                                else
                                  some (false)
                            else
                              (feluccaref04_Right k o_5.2.1).bind fun o_15 =>
                                bif o_15 then
                                  some (false)
                                else
                                  (feluccaref02_Same k (o_6.1, o_8.1)).bind fun o_17 =>
                                    bif o_17 then
                                      some (false)
                                    else
                                      some (false)
                        else
                          some (false)
              else
                (feluccaref04_Words k o_5.2.1).bind fun o_8 =>
                  bif o_8.2 then
                    (direct_Parse k o_5.1).bind fun o_10 =>
                      (feluccaref04_Parse k o_5.1).bind fun o_11 =>
                        bif o_5.2.2 then
                          (direct_Right k o_5.2.1).bind fun o_13 =>
                            bif o_13 then
                              (feluccaref04_Right k o_5.2.1).bind fun o_15 =>
                                bif o_15 then
                                  (feluccaref02_Same k (o_6.1, o_8.1)).bind fun o_17 =>
                                    bif o_17 then
                                      some (false)
                                    else
                                      some (false)
                                else
                                  some (false)
                            else
                              (feluccaref04_Right k o_5.2.1).bind fun o_15 =>
                                bif o_15 then
                                  some (false)
                                else
                                  (feluccaref02_Same k (o_6.1, o_8.1)).bind fun o_17 =>
                                    bif o_17 then
                                      some (false)
                                    else
                                      some (false)
                        else
                          some (false)
                  else
                    (direct_Parse k o_5.1).bind fun o_10 =>
                      (feluccaref04_Parse k o_5.1).bind fun o_11 =>
                        bif o_5.2.2 then
                          (direct_Right k o_5.2.1).bind fun o_13 =>
                            bif o_13 then
                              (feluccaref04_Right k o_5.2.1).bind fun o_15 =>
                                bif o_15 then
                                  (feluccaref02_Same k (o_6.1, o_8.1)).bind fun o_17 =>
                                    bif o_17 then
                                      bif o_10.1.1 == o_11.1.1 && (o_10.1.2.1 == o_11.1.2.1 && (o_10.1.2.2.1 == o_11.1.2.2.1 && (o_10.1.2.2.2.1 == o_11.1.2.2.2.1 && (o_10.1.2.2.2.2.1 == o_11.1.2.2.2.2.1 && (o_10.1.2.2.2.2.2.1 == o_11.1.2.2.2.2.2.1 && (o_10.1.2.2.2.2.2.2.1 == o_11.1.2.2.2.2.2.2.1 && o_10.1.2.2.2.2.2.2.2.1 == o_11.1.2.2.2.2.2.2.2.1)))) && (o_10.1.2.2.2.2.2.2.2.2.1 == o_11.1.2.2.2.2.2.2.2.2.1 && (o_10.1.2.2.2.2.2.2.2.2.2.1 == o_11.1.2.2.2.2.2.2.2.2.2.1 && (o_10.1.2.2.2.2.2.2.2.2.2.2.1 == o_11.1.2.2.2.2.2.2.2.2.2.2.1 && (o_10.1.2.2.2.2.2.2.2.2.2.2.2.1 == o_11.1.2.2.2.2.2.2.2.2.2.2.2.1 && o_10.1.2.2.2.2.2.2.2.2.2.2.2.2 == o_11.1.2.2.2.2.2.2.2.2.2.2.2.2)))))) then
                                        bif decide (o_10.2 = o_11.2) then
                                          some (true)
                                        else
                                          some (false)
                                      else
                                        some (false)
                                    else
                                      some (false)
                                else
                                  some (false)
                            else
                              (feluccaref04_Right k o_5.2.1).bind fun o_15 =>
                                bif o_15 then
                                  some (false)
                                else
                                  (feluccaref02_Same k (o_6.1, o_8.1)).bind fun o_17 =>
                                    bif o_17 then
                                      bif o_10.1.1 == o_11.1.1 && (o_10.1.2.1 == o_11.1.2.1 && (o_10.1.2.2.1 == o_11.1.2.2.1 && (o_10.1.2.2.2.1 == o_11.1.2.2.2.1 && (o_10.1.2.2.2.2.1 == o_11.1.2.2.2.2.1 && (o_10.1.2.2.2.2.2.1 == o_11.1.2.2.2.2.2.1 && (o_10.1.2.2.2.2.2.2.1 == o_11.1.2.2.2.2.2.2.1 && o_10.1.2.2.2.2.2.2.2.1 == o_11.1.2.2.2.2.2.2.2.1)))) && (o_10.1.2.2.2.2.2.2.2.2.1 == o_11.1.2.2.2.2.2.2.2.2.1 && (o_10.1.2.2.2.2.2.2.2.2.2.1 == o_11.1.2.2.2.2.2.2.2.2.2.1 && (o_10.1.2.2.2.2.2.2.2.2.2.2.1 == o_11.1.2.2.2.2.2.2.2.2.2.2.1 && (o_10.1.2.2.2.2.2.2.2.2.2.2.2.1 == o_11.1.2.2.2.2.2.2.2.2.2.2.2.1 && o_10.1.2.2.2.2.2.2.2.2.2.2.2.2 == o_11.1.2.2.2.2.2.2.2.2.2.2.2.2)))))) then
                                        bif decide (o_10.2 = o_11.2) then
                                          some (true)
                                        else
                                          some (false)
                                      else
                                        some (false)
                                    else
                                      some (false)
                        else
                          some (false)
          | .inr o_5 =>
            some (o_5)
noncomputable def feluccalaw04_DirectTells_X : Cx Tryd.prog [.one (.sc (.bool))] := ⟨fun k => ⟨[feluccalaw04_small_e k, direct_Words_e k, feluccaref04_Words_e k, direct_Parse_e k, feluccaref04_Parse_e k, direct_Right_e k, feluccaref04_Right_e k, feluccaref02_Same_e k], [], [hkStr Tryd.prog]⟩, Tryd.f3.ntmps, Tryd.f3.results, [some ⟨0, [(1, .one (.ro [.str])), (2, .box 27 trGDirective), (5, .one (.sc (.bool))), (6, .one (.sc (.int .i64)))], [(1, .one (.ro [.str])), (2, .box 27 trGDirective), (5, .one (.sc (.bool)))], feluccalaw04_DirectTells_L0⟩]⟩
theorem feluccalaw04_DirectTells_L0_eq (k : Nat) (x : (List ByteArray) × GDirective × Bool × Int) : feluccalaw04_DirectTells_L0 (k + 1) x = roundF feluccalaw04_DirectTells_X k ⟨0, [(1, .one (.ro [.str])), (2, .box 27 trGDirective), (5, .one (.sc (.bool))), (6, .one (.sc (.int .i64)))], [(1, .one (.ro [.str])), (2, .box 27 trGDirective), (5, .one (.sc (.bool)))], feluccalaw04_DirectTells_L0⟩ 0 (lp feluccalaw04_DirectTells_c 0) x := by kernel_rfl
theorem feluccalaw04_DirectTells_eq (k : Nat) (x : GDirective × (List ByteArray)) : feluccalaw04_DirectTells k x = runF feluccalaw04_DirectTells_X k feluccalaw04_DirectTells_c [.agg lGDirective, .one (.row 9 [.str])] x := by kernel_rfl
noncomputable def feluccalaw04_DirectTells_e (k : Nat) : Ent Tryd.prog := ⟨3, [.agg lGDirective, .one (.row 9 [.str])], [.one (.sc (.bool))], feluccalaw04_DirectTells k, calls_of (X := feluccalaw04_DirectTells_X) (k := k) (c := feluccalaw04_DirectTells_c) Tryd.func3 (by kernel_rfl) (by kernel_rfl) (by kernel_rfl) (LoopEqs.all (show LoopEqs feluccalaw04_DirectTells_X feluccalaw04_DirectTells_c feluccalaw04_DirectTells_X.L 0 from ⟨⟨fun _ => rfl, fun k x => feluccalaw04_DirectTells_L0_eq k x⟩, trivial⟩)) (fun x => feluccalaw04_DirectTells_eq k x), fun _ _ => by kernel_rfl⟩
end Go.Proofs.YtaknikdbnfmlfaaDoor.Ex
