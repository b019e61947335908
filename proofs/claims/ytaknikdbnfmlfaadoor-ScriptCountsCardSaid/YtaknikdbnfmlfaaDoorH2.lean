import Derived.Test.YtaknikdbnfmlfaaDoorH1
import Derived.Test.YtaknikdbnfmlfaaDoorF1
import Derived.Test.YtaknikdbnfmlfaaDoorArr
import Derived.Test.YtaknikdbnfmlfaaDoorRep
import Derived.Test.YtaknikdbnfmlfaaDoorStr
import Derived.Test.YtaknikdbnfmlfaaDoorBld
import Derived.Test.YtaknikdbnfmlfaaDoorForms
import Derived.Test.YtaknikdbnfmlfaaDoorFnd
import Derived.Test.YtaknikdbnfmlfaaDoorExY
import Derived.Test.YtaknikdbnfmlfaaDoorExAA
import Derived.Test.YtaknikdbnfmlfaaDoorExEE
import Derived.Test.YtaknikdbnfmlfaaDoorProg
namespace Go.Proofs.YtaknikdbnfmlfaaDoor.Ex
open Go
set_option linter.unusedVariables false
set_option maxHeartbeats 0
/-! felucca/feluccalaw25.small -/
noncomputable def feluccalaw25_small_c : Code := Tryd.f21.body.getD .skip
def feluccalaw25_small (_k : Nat) : Unit → Option (Bool) := fun _ => some true
noncomputable def feluccalaw25_small_X : Cx Tryd.prog [.one (.sc (.bool))] := ⟨fun k => ⟨[script_Acts_e k, script_Directive_e k, script_Same_e k, script_Count_e k], [], [hkArr Tryd.prog, hkStr Tryd.prog]⟩, Tryd.f21.ntmps, Tryd.f21.results, []⟩
theorem feluccalaw25_small_eq (x : Unit) : feluccalaw25_small 0 x = runF feluccalaw25_small_X 100 feluccalaw25_small_c [] x := by kernel_rfl
noncomputable def feluccalaw25_small_e (k : Nat) : Ent Tryd.prog := ⟨21, [], [.one (.sc (.bool))], feluccalaw25_small k, calls_of (X := feluccalaw25_small_X) (k := 100) (c := feluccalaw25_small_c) Tryd.func21 (by kernel_rfl) (by kernel_rfl) (by kernel_rfl) (LoopEqs.all (show LoopEqs feluccalaw25_small_X feluccalaw25_small_c feluccalaw25_small_X.L 0 from trivial)) (fun x => feluccalaw25_small_eq x), fun _ _ => by kernel_rfl⟩
/-! felucca/feluccalaw25.ScriptTells -/
noncomputable def feluccalaw25_ScriptTells_c : Code := Tryd.f4.body.getD .skip
def feluccalaw25_ScriptTells_L0 : Nat → ((List Int) × (List GAct) × Int × T39 × Bool × Int) → Option (((List Int) × (List GAct) × Int × T39 × Bool) ⊕ (Bool))
  | 0, _ => none
  | k + 1, (b, l, do3, x5, head, i) =>
  bif decide (i < Int.ofNat (List.length l)) then
    bif decide (0 ≤ i) then
      bif decide (i < Int.ofNat (List.length l)) then
        bif decide (200 < Int.ofNat (ByteArray.size (List.getD l (Int.toNat i) (0, (⟨#[]⟩ : ByteArray), 0, 0, 0, 0, 0, 0, 0, 0, 0, 0, 0, 0, 0, 0, [], 0, 0, 0, 0, 0, 0, 0)).2.1)) then
          bif head then
            some (Sum.inr true)
          else
            some (Sum.inr false)
        else
          bif decide (0 ≤ i) then
            bif decide (i < Int.ofNat (List.length l)) then
              bif decide (50 < Int.ofNat (List.length (List.getD l (Int.toNat i) (0, (⟨#[]⟩ : ByteArray), 0, 0, 0, 0, 0, 0, 0, 0, 0, 0, 0, 0, 0, 0, [], 0, 0, 0, 0, 0, 0, 0)).2.2.2.2.2.2.2.2.2.2.2.2.2.2.2.2.1)) then
                bif head then
                  some (Sum.inr true)
                else
                  some (Sum.inr false)
              else
                feluccalaw25_ScriptTells_L0 k (b, l, do3, x5, head, w64 (i + 1))
            else
              none
          else
            none
      else
        none
    else
      none
  else
    some (Sum.inl (b, l, do3, x5, head))
def feluccalaw25_ScriptTells (k : Nat) : ((List Int) × T39 × (List GAct) × Int) → Option (Bool) := fun (b, x1, l, do3) =>
  (feluccalaw25_small k ()).bind fun o_1 =>
    bif o_1 then
      bif decide (500 < Int.ofNat (List.length b)) then
        some (true)
      else
        bif decide (50 < Int.ofNat (List.length l)) then
          some (true)
        else
          (feluccalaw25_ScriptTells_L0 k (b, l, do3, x1, true, 0)).bind fun o_5 =>
            match o_5 with
            | .inl o_6 =>
              (script_Acts k o_6.1).bind fun o_7 =>
                (feluccaref25_Acts k o_6.1).bind fun o_8 =>
                  bif o_6.2.2.2.2 then
                    (feluccaref25_Same k (o_7.1, o_8.1)).bind fun o_10 =>
                      bif o_10 then
                        bif decide (o_7.2 = o_8.2) then
                          (script_Directive k o_6.2.2.2.1).bind fun o_13 =>
                            (feluccaref25_Directive k o_6.2.2.2.1).bind fun o_14 =>
                              bif o_13.1 == o_14.1 && (o_13.2.1 == o_14.2.1 && (o_13.2.2.1 == o_14.2.2.1 && (o_13.2.2.2.1 == o_14.2.2.2.1 && (o_13.2.2.2.2.1 == o_14.2.2.2.2.1 && (o_13.2.2.2.2.2.1 == o_14.2.2.2.2.2.1 && (o_13.2.2.2.2.2.2.1 == o_14.2.2.2.2.2.2.1 && o_13.2.2.2.2.2.2.2.1 == o_14.2.2.2.2.2.2.2.1)))) && (o_13.2.2.2.2.2.2.2.2.1 == o_14.2.2.2.2.2.2.2.2.1 && (o_13.2.2.2.2.2.2.2.2.2.1 == o_14.2.2.2.2.2.2.2.2.2.1 && (o_13.2.2.2.2.2.2.2.2.2.2.1 == o_14.2.2.2.2.2.2.2.2.2.2.1 && (o_13.2.2.2.2.2.2.2.2.2.2.2.1 == o_14.2.2.2.2.2.2.2.2.2.2.2.1 && o_13.2.2.2.2.2.2.2.2.2.2.2.2 == o_14.2.2.2.2.2.2.2.2.2.2.2.2)))))) then
                                (script_Same k (o_7.1, o_6.2.1)).bind fun o_16 =>
                                  bif o_16 then
                                    (feluccaref25_Same k (o_7.1, o_6.2.1)).bind fun o_18 =>
                                      bif o_18 then
                                        (script_Count k (o_6.2.1, o_6.2.2.1)).bind fun o_20 =>
                                          (feluccaref25_Count k (o_6.2.1, o_6.2.2.1)).bind fun o_21 =>
                                            bif decide (o_20 = o_21) then
                                              some (true)
                                            else
                                              some (false)
                                      else
                                        some (false)
                                  else
                                    (feluccaref25_Same k (o_7.1, o_6.2.1)).bind fun o_18 =>
                                      bif o_18 then
                                        some (false)
                                      else
                                        (script_Count k (o_6.2.1, o_6.2.2.1)).bind fun o_20 =>
                                          (feluccaref25_Count k (o_6.2.1, o_6.2.2.1)).bind fun o_21 =>
                                            bif decide (o_20 = o_21) then
                                              some (true)
                                            else
                                              some (false)
                              else
                                some (false)
                        else
                          some (false)
                      else
                        some (false)
                  else
                    some (false)
            | .inr o_6 =>
              some (o_6)
    else
      bif decide (500 < Int.ofNat (List.length b)) then
        some (false)
      else
        bif decide (50 < Int.ofNat (List.length l)) then
          some (false)
        else
          (feluccalaw25_ScriptTells_L0 k (b, l, do3, x1, false, 0)).bind fun o_5 =>
            match o_5 with
            | .inl o_6 =>
              (script_Acts k o_6.1).bind fun o_7 =>
                (feluccaref25_Acts k o_6.1).bind fun o_8 =>
                  bif o_6.2.2.2.2 then
                    (feluccaref25_Same k (o_7.1, o_8.1)).bind fun o_10 =>
                      bif o_10 then
                        bif decide (o_7.2 = o_8.2) then
                          (script_Directive k o_6.2.2.2.1).bind fun o_13 =>
                            (feluccaref25_Directive k o_6.2.2.2.1).bind fun o_14 =>
                              bif o_13.1 == o_14.1 && (o_13.2.1 == o_14.2.1 && (o_13.2.2.1 == o_14.2.2.1 && (o_13.2.2.2.1 == o_14.2.2.2.1 && (o_13.2.2.2.2.1 == o_14.2.2.2.2.1 && (o_13.2.2.2.2.2.1 == o_14.2.2.2.2.2.1 && (o_13.2.2.2.2.2.2.1 == o_14.2.2.2.2.2.2.1 && o_13.2.2.2.2.2.2.2.1 == o_14.2.2.2.2.2.2.2.1)))) && (o_13.2.2.2.2.2.2.2.2.1 == o_14.2.2.2.2.2.2.2.2.1 && (o_13.2.2.2.2.2.2.2.2.2.1 == o_14.2.2.2.2.2.2.2.2.2.1 && (o_13.2.2.2.2.2.2.2.2.2.2.1 == o_14.2.2.2.2.2.2.2.2.2.2.1 && (o_13.2.2.2.2.2.2.2.2.2.2.2.1 == o_14.2.2.2.2.2.2.2.2.2.2.2.1 && o_13.2.2.2.2.2.2.2.2.2.2.2.2 == o_14.2.2.2.2.2.2.2.2.2.2.2.2)))))) then
                                (script_Same k (o_7.1, o_6.2.1)).bind fun o_16 =>
                                  bif o_16 then
                                    (feluccaref25_Same k (o_7.1, o_6.2.1)).bind fun o_18 =>
                                      bif o_18 then
                                        (script_Count k (o_6.2.1, o_6.2.2.1)).bind fun o_20 =>
                                          (feluccaref25_Count k (o_6.2.1, o_6.2.2.1)).bind fun o_21 =>
                                            bif decide (o_20 = o_21) then
                                              some (true)
                                            else
                                              some (false)
                                      else
                                        some (false)
                                  else
                                    (feluccaref25_Same k (o_7.1, o_6.2.1)).bind fun o_18 =>
                                      bif o_18 then
                                        some (false)
                                      else
                                        (script_Count k (o_6.2.1, o_6.2.2.1)).bind fun o_20 =>
                                          (feluccaref25_Count k (o_6.2.1, o_6.2.2.1)).bind fun o_21 =>
                                            bif decide (o_20 = o_21) then
                                              some (true)
                                            else
                                              some (false)
                              else
                                some (false)
                        else
                          some (false)
                      else
                        some (false)
                  else
                    some (false)
            | .inr o_6 =>
              some (o_6)
noncomputable def feluccalaw25_ScriptTells_X : Cx Tryd.prog [.one (.sc (.bool))] := ⟨fun k => ⟨[feluccalaw25_small_e k, script_Acts_e k, feluccaref25_Acts_e k, feluccaref25_Same_e k, script_Directive_e k, feluccaref25_Directive_e k, script_Same_e k, script_Count_e k, feluccaref25_Count_e k], [], [hkStr Tryd.prog]⟩, Tryd.f4.ntmps, Tryd.f4.results, [some ⟨0, [(0, .one (.ro [.int .u8])), (2, .one (.ro kGAct)), (3, .one (.sc (.int .i64))), (5, .box 39 trT39), (9, .one (.sc (.bool))), (10, .one (.sc (.int .i64)))], [(0, .one (.ro [.int .u8])), (2, .one (.ro kGAct)), (3, .one (.sc (.int .i64))), (5, .box 39 trT39), (9, .one (.sc (.bool)))], feluccalaw25_ScriptTells_L0⟩]⟩
theorem feluccalaw25_ScriptTells_L0_eq (k : Nat) (x : (List Int) × (List GAct) × Int × T39 × Bool × Int) : feluccalaw25_ScriptTells_L0 (k + 1) x = roundF feluccalaw25_ScriptTells_X k ⟨0, [(0, .one (.ro [.int .u8])), (2, .one (.ro kGAct)), (3, .one (.sc (.int .i64))), (5, .box 39 trT39), (9, .one (.sc (.bool))), (10, .one (.sc (.int .i64)))], [(0, .one (.ro [.int .u8])), (2, .one (.ro kGAct)), (3, .one (.sc (.int .i64))), (5, .box 39 trT39), (9, .one (.sc (.bool)))], feluccalaw25_ScriptTells_L0⟩ 0 (lp feluccalaw25_ScriptTells_c 0) x := by kernel_rfl
theorem feluccalaw25_ScriptTells_eq (k : Nat) (x : (List Int) × T39 × (List GAct) × Int) : feluccalaw25_ScriptTells k x = runF feluccalaw25_ScriptTells_X k feluccalaw25_ScriptTells_c [.one (.row 5 [.int .u8]), .agg lT39, .one (.row 45 kGAct), .one (.sc (.int .i64))] x := by kernel_rfl
noncomputable def feluccalaw25_ScriptTells_e (k : Nat) : Ent Tryd.prog := ⟨4, [.one (.row 5 [.int .u8]), .agg lT39, .one (.row 45 kGAct), .one (.sc (.int .i64))], [.one (.sc (.bool))], feluccalaw25_ScriptTells k, calls_of (X := feluccalaw25_ScriptTells_X) (k := k) (c := feluccalaw25_ScriptTells_c) Tryd.func4 (by kernel_rfl) (by kernel_rfl) (by kernel_rfl) (LoopEqs.all (show LoopEqs feluccalaw25_ScriptTells_X feluccalaw25_ScriptTells_c feluccalaw25_ScriptTells_X.L 0 from ⟨⟨fun _ => rfl, fun k x => feluccalaw25_ScriptTells_L0_eq k x⟩, trivial⟩)) (fun x => feluccalaw25_ScriptTells_eq k x), fun _ _ => by kernel_rfl⟩
/-! felucca/feluccalaw25.ScriptParts -/
noncomputable def feluccalaw25_ScriptParts_c : Code := Tryd.f5.body.getD .skip
def feluccalaw25_ScriptParts (k : Nat) : ((List Int) × Int) → Option (Bool) := fun (b, k1) =>
  (feluccalaw25_small k ()).bind fun o_1 =>
    bif o_1 then
      bif decide (500 < Int.ofNat (List.length b)) then
        some (true)
      else
        bif decide (k1 < 0) then
          some (true)
        else
          bif decide (w64 (Int.tdiv (Int.ofNat (List.length b)) 10) < k1) then
            some (true)
          else
            (script_Acts k b).bind fun o_6 =>
              bif decide (0 ≤ w64 (10 * k1)) then
                bif decide (w64 (10 * k1) ≤ Int.ofNat (List.length b)) then
                  (script_Acts k (List.take (Int.toNat (w64 (10 * k1))) b)).bind fun o_9 =>
                    bif decide (0 ≤ w64 (10 * k1)) then
                      bif decide (w64 (10 * k1) ≤ Int.ofNat (List.length b)) then
                        (script_Acts k (List.drop (Int.toNat (w64 (10 * k1))) b)).bind fun o_12 =>
                          bif decide (Int.ofNat (List.length o_6.1) = w64 (Int.tdiv (Int.ofNat (List.length b)) 10)) then
                            bif decide (o_6.2 = Int.tmod (Int.ofNat (List.length b)) 10) then
                              bif decide (o_9.2 = 0) then
                                bif decide (o_12.2 = o_6.2) then
                                  bif decide ((0 + List.length o_9.1) * 216 ≤ 140737488355328) then
                                    bif decide ((List.length o_9.1 + List.length o_12.1) * 216 ≤ 140737488355328) then
                                      (script_Same k (o_6.1, o_9.1 ++ o_12.1)).bind fun o_19 =>
                                        bif o_19 then
                                          some (true)
                                        else
                                          some (false)
                                    else
                                      none
                                  else
                                    none
                                else
                                  some (false)
                              else
                                some (false)
                            else
                              some (false)
                          else
                            some (false)
                      else
                        none
                    else
                      none
                else
                  none
              else
                none
    else
      bif decide (500 < Int.ofNat (List.length b)) then
        some (false)
      else
        bif decide (k1 < 0) then
          some (false)
        else
          bif decide (w64 (Int.tdiv (Int.ofNat (List.length b)) 10) < k1) then
            some (false)
          else
            (script_Acts k b).bind fun o_6 =>
              bif decide (0 ≤ w64 (10 * k1)) then
                bif decide (w64 (10 * k1) ≤ Int.ofNat (List.length b)) then
                  (script_Acts k (List.take (Int.toNat (w64 (10 * k1))) b)).bind fun o_9 =>
                    bif decide (0 ≤ w64 (10 * k1)) then
                      bif decide (w64 (10 * k1) ≤ Int.ofNat (List.length b)) then
                        (script_Acts k (List.drop (Int.toNat (w64 (10 * k1))) b)).bind fun o_12 =>
                          some (false)
                      else
                        none
                    else
                      none
                else
                  none
              else
                none
noncomputable def feluccalaw25_ScriptParts_X : Cx Tryd.prog [.one (.sc (.bool))] := ⟨fun k => ⟨[feluccalaw25_small_e k, script_Acts_e k, script_Same_e k], [], [hkArr Tryd.prog, hkStr Tryd.prog]⟩, Tryd.f5.ntmps, Tryd.f5.results, []⟩
theorem feluccalaw25_ScriptParts_eq (k : Nat) (x : (List Int) × Int) : feluccalaw25_ScriptParts k x = runF feluccalaw25_ScriptParts_X k feluccalaw25_ScriptParts_c [.one (.row 5 [.int .u8]), .one (.sc (.int .i64))] x := by kernel_rfl
noncomputable def feluccalaw25_ScriptParts_e (k : Nat) : Ent Tryd.prog := ⟨5, [.one (.row 5 [.int .u8]), .one (.sc (.int .i64))], [.one (.sc (.bool))], feluccalaw25_ScriptParts k, calls_of (X := feluccalaw25_ScriptParts_X) (k := k) (c := feluccalaw25_ScriptParts_c) Tryd.func5 (by kernel_rfl) (by kernel_rfl) (by kernel_rfl) (LoopEqs.all (show LoopEqs feluccalaw25_ScriptParts_X feluccalaw25_ScriptParts_c feluccalaw25_ScriptParts_X.L 0 from trivial)) (fun x => feluccalaw25_ScriptParts_eq k x), fun _ _ => by kernel_rfl⟩
/-! felucca/feluccalaw25.ScriptOnes -/
noncomputable def feluccalaw25_ScriptOnes_c : Code := Tryd.f6.body.getD .skip
def feluccalaw25_ScriptOnes (k : Nat) : T39 → Option (Bool) := fun (x0) =>
  (feluccalaw25_small k ()).bind fun o_1 =>
    bif o_1 then
      (script_Acts k [x0.1, x0.2.1, x0.2.2.1, x0.2.2.2.1, x0.2.2.2.2.1, x0.2.2.2.2.2.1, x0.2.2.2.2.2.2.1, x0.2.2.2.2.2.2.2.1, x0.2.2.2.2.2.2.2.2.1, x0.2.2.2.2.2.2.2.2.2]).bind fun o_3 =>
        bif !decide (Int.ofNat (List.length o_3.1) = 1) then
          some (false)
        else
          bif !decide (o_3.2 = 0) then
            some (false)
          else
            (script_Directive k x0).bind fun o_6 =>
              bif decide (0 < Int.ofNat (List.length o_3.1)) then
                (text_Print k [o_6]).bind fun o_8 =>
                  bif o_8.2 then
                    bif decide ((List.getD o_3.1 (Int.toNat 0) (0, (⟨#[]⟩ : ByteArray), 0, 0, 0, 0, 0, 0, 0, 0, 0, 0, 0, 0, 0, 0, [], 0, 0, 0, 0, 0, 0, 0)).1 = 1) then
                      bif (List.getD o_3.1 (Int.toNat 0) (0, (⟨#[]⟩ : ByteArray), 0, 0, 0, 0, 0, 0, 0, 0, 0, 0, 0, 0, 0, 0, [], 0, 0, 0, 0, 0, 0, 0)).2.1.data.toList == o_8.1.data.toList then
                        bif decide (Int.tmod x0.2.2.2.2.2.2.2.2.1 2 = 0) then
                          some (true)
                        else
                          bif decide (ByteArray.size o_8.1 + ByteArray.size o_8.1 ≤ 9223372036854775807) then
                            bif (List.getD o_3.1 (Int.toNat 0) (0, (⟨#[]⟩ : ByteArray), 0, 0, 0, 0, 0, 0, 0, 0, 0, 0, 0, 0, 0, 0, [], 0, 0, 0, 0, 0, 0, 0)).2.1.data.toList == (o_8.1 ++ o_8.1).data.toList then
                              bif decide (Int.tmod x0.2.2.2.2.2.2.2.2.1 2 = 1) then
                                some (true)
                              else
                                some (false)
                            else
                              some (false)
                          else
                            none
                      else
                        bif decide (ByteArray.size o_8.1 + ByteArray.size o_8.1 ≤ 9223372036854775807) then
                          bif (List.getD o_3.1 (Int.toNat 0) (0, (⟨#[]⟩ : ByteArray), 0, 0, 0, 0, 0, 0, 0, 0, 0, 0, 0, 0, 0, 0, [], 0, 0, 0, 0, 0, 0, 0)).2.1.data.toList == (o_8.1 ++ o_8.1).data.toList then
                            bif decide (Int.tmod x0.2.2.2.2.2.2.2.2.1 2 = 1) then
                              some (true)
                            else
                              some (false)
                          else
                            some (false)
                        else
                          none
                    else
                      bif decide ((List.getD o_3.1 (Int.toNat 0) (0, (⟨#[]⟩ : ByteArray), 0, 0, 0, 0, 0, 0, 0, 0, 0, 0, 0, 0, 0, 0, [], 0, 0, 0, 0, 0, 0, 0)).1 = 2) then
                        bif (List.getD o_3.1 (Int.toNat 0) (0, (⟨#[]⟩ : ByteArray), 0, 0, 0, 0, 0, 0, 0, 0, 0, 0, 0, 0, 0, 0, [], 0, 0, 0, 0, 0, 0, 0)).2.2.1 == o_6.1 && ((List.getD o_3.1 (Int.toNat 0) (0, (⟨#[]⟩ : ByteArray), 0, 0, 0, 0, 0, 0, 0, 0, 0, 0, 0, 0, 0, 0, [], 0, 0, 0, 0, 0, 0, 0)).2.2.2.1 == o_6.2.1 && ((List.getD o_3.1 (Int.toNat 0) (0, (⟨#[]⟩ : ByteArray), 0, 0, 0, 0, 0, 0, 0, 0, 0, 0, 0, 0, 0, 0, [], 0, 0, 0, 0, 0, 0, 0)).2.2.2.2.1 == o_6.2.2.1 && ((List.getD o_3.1 (Int.toNat 0) (0, (⟨#[]⟩ : ByteArray), 0, 0, 0, 0, 0, 0, 0, 0, 0, 0, 0, 0, 0, 0, [], 0, 0, 0, 0, 0, 0, 0)).2.2.2.2.2.1 == o_6.2.2.2.1 && ((List.getD o_3.1 (Int.toNat 0) (0, (⟨#[]⟩ : ByteArray), 0, 0, 0, 0, 0, 0, 0, 0, 0, 0, 0, 0, 0, 0, [], 0, 0, 0, 0, 0, 0, 0)).2.2.2.2.2.2.1 == o_6.2.2.2.2.1 && ((List.getD o_3.1 (Int.toNat 0) (0, (⟨#[]⟩ : ByteArray), 0, 0, 0, 0, 0, 0, 0, 0, 0, 0, 0, 0, 0, 0, [], 0, 0, 0, 0, 0, 0, 0)).2.2.2.2.2.2.2.1 == o_6.2.2.2.2.2.1 && ((List.getD o_3.1 (Int.toNat 0) (0, (⟨#[]⟩ : ByteArray), 0, 0, 0, 0, 0, 0, 0, 0, 0, 0, 0, 0, 0, 0, [], 0, 0, 0, 0, 0, 0, 0)).2.2.2.2.2.2.2.2.1 == o_6.2.2.2.2.2.2.1 && (List.getD o_3.1 (Int.toNat 0) (0, (⟨#[]⟩ : ByteArray), 0, 0, 0, 0, 0, 0, 0, 0, 0, 0, 0, 0, 0, 0, [], 0, 0, 0, 0, 0, 0, 0)).2.2.2.2.2.2.2.2.2.1 == o_6.2.2.2.2.2.2.2.1)))) && ((List.getD o_3.1 (Int.toNat 0) (0, (⟨#[]⟩ : ByteArray), 0, 0, 0, 0, 0, 0, 0, 0, 0, 0, 0, 0, 0, 0, [], 0, 0, 0, 0, 0, 0, 0)).2.2.2.2.2.2.2.2.2.2.1 == o_6.2.2.2.2.2.2.2.2.1 && ((List.getD o_3.1 (Int.toNat 0) (0, (⟨#[]⟩ : ByteArray), 0, 0, 0, 0, 0, 0, 0, 0, 0, 0, 0, 0, 0, 0, [], 0, 0, 0, 0, 0, 0, 0)).2.2.2.2.2.2.2.2.2.2.2.1 == o_6.2.2.2.2.2.2.2.2.2.1 && ((List.getD o_3.1 (Int.toNat 0) (0, (⟨#[]⟩ : ByteArray), 0, 0, 0, 0, 0, 0, 0, 0, 0, 0, 0, 0, 0, 0, [], 0, 0, 0, 0, 0, 0, 0)).2.2.2.2.2.2.2.2.2.2.2.2.1 == o_6.2.2.2.2.2.2.2.2.2.2.1 && ((List.getD o_3.1 (Int.toNat 0) (0, (⟨#[]⟩ : ByteArray), 0, 0, 0, 0, 0, 0, 0, 0, 0, 0, 0, 0, 0, 0, [], 0, 0, 0, 0, 0, 0, 0)).2.2.2.2.2.2.2.2.2.2.2.2.2.1 == o_6.2.2.2.2.2.2.2.2.2.2.2.1 && (List.getD o_3.1 (Int.toNat 0) (0, (⟨#[]⟩ : ByteArray), 0, 0, 0, 0, 0, 0, 0, 0, 0, 0, 0, 0, 0, 0, [], 0, 0, 0, 0, 0, 0, 0)).2.2.2.2.2.2.2.2.2.2.2.2.2.2.1 == o_6.2.2.2.2.2.2.2.2.2.2.2.2)))))) then
                          some (true)
                        else
                          some (false)
                      else
                        bif (List.getD o_3.1 (Int.toNat 0) (0, (⟨#[]⟩ : ByteArray), 0, 0, 0, 0, 0, 0, 0, 0, 0, 0, 0, 0, 0, 0, [], 0, 0, 0, 0, 0, 0, 0)).2.2.1 == 0 && ((List.getD o_3.1 (Int.toNat 0) (0, (⟨#[]⟩ : ByteArray), 0, 0, 0, 0, 0, 0, 0, 0, 0, 0, 0, 0, 0, 0, [], 0, 0, 0, 0, 0, 0, 0)).2.2.2.1 == 0 && ((List.getD o_3.1 (Int.toNat 0) (0, (⟨#[]⟩ : ByteArray), 0, 0, 0, 0, 0, 0, 0, 0, 0, 0, 0, 0, 0, 0, [], 0, 0, 0, 0, 0, 0, 0)).2.2.2.2.1 == 0 && ((List.getD o_3.1 (Int.toNat 0) (0, (⟨#[]⟩ : ByteArray), 0, 0, 0, 0, 0, 0, 0, 0, 0, 0, 0, 0, 0, 0, [], 0, 0, 0, 0, 0, 0, 0)).2.2.2.2.2.1 == 0 && ((List.getD o_3.1 (Int.toNat 0) (0, (⟨#[]⟩ : ByteArray), 0, 0, 0, 0, 0, 0, 0, 0, 0, 0, 0, 0, 0, 0, [], 0, 0, 0, 0, 0, 0, 0)).2.2.2.2.2.2.1 == 0 && ((List.getD o_3.1 (Int.toNat 0) (0, (⟨#[]⟩ : ByteArray), 0, 0, 0, 0, 0, 0, 0, 0, 0, 0, 0, 0, 0, 0, [], 0, 0, 0, 0, 0, 0, 0)).2.2.2.2.2.2.2.1 == 0 && ((List.getD o_3.1 (Int.toNat 0) (0, (⟨#[]⟩ : ByteArray), 0, 0, 0, 0, 0, 0, 0, 0, 0, 0, 0, 0, 0, 0, [], 0, 0, 0, 0, 0, 0, 0)).2.2.2.2.2.2.2.2.1 == 0 && (List.getD o_3.1 (Int.toNat 0) (0, (⟨#[]⟩ : ByteArray), 0, 0, 0, 0, 0, 0, 0, 0, 0, 0, 0, 0, 0, 0, [], 0, 0, 0, 0, 0, 0, 0)).2.2.2.2.2.2.2.2.2.1 == 0)))) && ((List.getD o_3.1 (Int.toNat 0) (0, (⟨#[]⟩ : ByteArray), 0, 0, 0, 0, 0, 0, 0, 0, 0, 0, 0, 0, 0, 0, [], 0, 0, 0, 0, 0, 0, 0)).2.2.2.2.2.2.2.2.2.2.1 == 0 && ((List.getD o_3.1 (Int.toNat 0) (0, (⟨#[]⟩ : ByteArray), 0, 0, 0, 0, 0, 0, 0, 0, 0, 0, 0, 0, 0, 0, [], 0, 0, 0, 0, 0, 0, 0)).2.2.2.2.2.2.2.2.2.2.2.1 == 0 && ((List.getD o_3.1 (Int.toNat 0) (0, (⟨#[]⟩ : ByteArray), 0, 0, 0, 0, 0, 0, 0, 0, 0, 0, 0, 0, 0, 0, [], 0, 0, 0, 0, 0, 0, 0)).2.2.2.2.2.2.2.2.2.2.2.2.1 == 0 && ((List.getD o_3.1 (Int.toNat 0) (0, (⟨#[]⟩ : ByteArray), 0, 0, 0, 0, 0, 0, 0, 0, 0, 0, 0, 0, 0, 0, [], 0, 0, 0, 0, 0, 0, 0)).2.2.2.2.2.2.2.2.2.2.2.2.2.1 == 0 && (List.getD o_3.1 (Int.toNat 0) (0, (⟨#[]⟩ : ByteArray), 0, 0, 0, 0, 0, 0, 0, 0, 0, 0, 0, 0, 0, 0, [], 0, 0, 0, 0, 0, 0, 0)).2.2.2.2.2.2.2.2.2.2.2.2.2.2.1 == 0)))))) then
                          bif decide (1 ≤ (List.getD o_3.1 (Int.toNat 0) (0, (⟨#[]⟩ : ByteArray), 0, 0, 0, 0, 0, 0, 0, 0, 0, 0, 0, 0, 0, 0, [], 0, 0, 0, 0, 0, 0, 0)).1) then
                            bif decide ((List.getD o_3.1 (Int.toNat 0) (0, (⟨#[]⟩ : ByteArray), 0, 0, 0, 0, 0, 0, 0, 0, 0, 0, 0, 0, 0, 0, [], 0, 0, 0, 0, 0, 0, 0)).1 ≤ 7) then
                              bif decide ((List.getD o_3.1 (Int.toNat 0) (0, (⟨#[]⟩ : ByteArray), 0, 0, 0, 0, 0, 0, 0, 0, 0, 0, 0, 0, 0, 0, [], 0, 0, 0, 0, 0, 0, 0)).1 = w64 (1 + Int.tmod (w64 x0.1) 7)) then
                                some (true)
                              else
                                some (false)
                            else
                              some (false)
                          else
                            some (false)
                        else
                          some (false)
                  else
                    bif decide ((List.getD o_3.1 (Int.toNat 0) (0, (⟨#[]⟩ : ByteArray), 0, 0, 0, 0, 0, 0, 0, 0, 0, 0, 0, 0, 0, 0, [], 0, 0, 0, 0, 0, 0, 0)).1 = 1) then
                      bif (List.getD o_3.1 (Int.toNat 0) (0, (⟨#[]⟩ : ByteArray), 0, 0, 0, 0, 0, 0, 0, 0, 0, 0, 0, 0, 0, 0, [], 0, 0, 0, 0, 0, 0, 0)).2.1.data.toList == (⟨#[120, 10]⟩ : ByteArray).data.toList then
                        some (true)
                      else
                        some (false)
                    else
                      bif decide ((List.getD o_3.1 (Int.toNat 0) (0, (⟨#[]⟩ : ByteArray), 0, 0, 0, 0, 0, 0, 0, 0, 0, 0, 0, 0, 0, 0, [], 0, 0, 0, 0, 0, 0, 0)).1 = 2) then
                        bif (List.getD o_3.1 (Int.toNat 0) (0, (⟨#[]⟩ : ByteArray), 0, 0, 0, 0, 0, 0, 0, 0, 0, 0, 0, 0, 0, 0, [], 0, 0, 0, 0, 0, 0, 0)).2.2.1 == o_6.1 && ((List.getD o_3.1 (Int.toNat 0) (0, (⟨#[]⟩ : ByteArray), 0, 0, 0, 0, 0, 0, 0, 0, 0, 0, 0, 0, 0, 0, [], 0, 0, 0, 0, 0, 0, 0)).2.2.2.1 == o_6.2.1 && ((List.getD o_3.1 (Int.toNat 0) (0, (⟨#[]⟩ : ByteArray), 0, 0, 0, 0, 0, 0, 0, 0, 0, 0, 0, 0, 0, 0, [], 0, 0, 0, 0, 0, 0, 0)).2.2.2.2.1 == o_6.2.2.1 && ((List.getD o_3.1 (Int.toNat 0) (0, (⟨#[]⟩ : ByteArray), 0, 0, 0, 0, 0, 0, 0, 0, 0, 0, 0, 0, 0, 0, [], 0, 0, 0, 0, 0, 0, 0)).2.2.2.2.2.1 == o_6.2.2.2.1 && ((List.getD o_3.1 (Int.toNat 0) (0, (⟨#[]⟩ : ByteArray), 0, 0, 0, 0, 0, 0, 0, 0, 0, 0, 0, 0, 0, 0, [], 0, 0, 0, 0, 0, 0, 0)).2.2.2.2.2.2.1 == o_6.2.2.2.2.1 && ((List.getD o_3.1 (Int.toNat 0) (0, (⟨#[]⟩ : ByteArray), 0, 0, 0, 0, 0, 0, 0, 0, 0, 0, 0, 0, 0, 0, [], 0, 0, 0, 0, 0, 0, 0)).2.2.2.2.2.2.2.1 == o_6.2.2.2.2.2.1 && ((List.getD o_3.1 (Int.toNat 0) (0, (⟨#[]⟩ : ByteArray), 0, 0, 0, 0, 0, 0, 0, 0, 0, 0, 0, 0, 0, 0, [], 0, 0, 0, 0, 0, 0, 0)).2.2.2.2.2.2.2.2.1 == o_6.2.2.2.2.2.2.1 && (List.getD o_3.1 (Int.toNat 0) (0, (⟨#[]⟩ : ByteArray), 0, 0, 0, 0, 0, 0, 0, 0, 0, 0, 0, 0, 0, 0, [], 0, 0, 0, 0, 0, 0, 0)).2.2.2.2.2.2.2.2.2.1 == o_6.2.2.2.2.2.2.2.1)))) && ((List.getD o_3.1 (Int.toNat 0) (0, (⟨#[]⟩ : ByteArray), 0, 0, 0, 0, 0, 0, 0, 0, 0, 0, 0, 0, 0, 0, [], 0, 0, 0, 0, 0, 0, 0)).2.2.2.2.2.2.2.2.2.2.1 == o_6.2.2.2.2.2.2.2.2.1 && ((List.getD o_3.1 (Int.toNat 0) (0, (⟨#[]⟩ : ByteArray), 0, 0, 0, 0, 0, 0, 0, 0, 0, 0, 0, 0, 0, 0, [], 0, 0, 0, 0, 0, 0, 0)).2.2.2.2.2.2.2.2.2.2.2.1 == o_6.2.2.2.2.2.2.2.2.2.1 && ((List.getD o_3.1 (Int.toNat 0) (0, (⟨#[]⟩ : ByteArray), 0, 0, 0, 0, 0, 0, 0, 0, 0, 0, 0, 0, 0, 0, [], 0, 0, 0, 0, 0, 0, 0)).2.2.2.2.2.2.2.2.2.2.2.2.1 == o_6.2.2.2.2.2.2.2.2.2.2.1 && ((List.getD o_3.1 (Int.toNat 0) (0, (⟨#[]⟩ : ByteArray), 0, 0, 0, 0, 0, 0, 0, 0, 0, 0, 0, 0, 0, 0, [], 0, 0, 0, 0, 0, 0, 0)).2.2.2.2.2.2.2.2.2.2.2.2.2.1 == o_6.2.2.2.2.2.2.2.2.2.2.2.1 && (List.getD o_3.1 (Int.toNat 0) (0, (⟨#[]⟩ : ByteArray), 0, 0, 0, 0, 0, 0, 0, 0, 0, 0, 0, 0, 0, 0, [], 0, 0, 0, 0, 0, 0, 0)).2.2.2.2.2.2.2.2.2.2.2.2.2.2.1 == o_6.2.2.2.2.2.2.2.2.2.2.2.2)))))) then
                          some (true)
                        else
                          some (false)
                      else
                        bif (List.getD o_3.1 (Int.toNat 0) (0, (⟨#[]⟩ : ByteArray), 0, 0, 0, 0, 0, 0, 0, 0, 0, 0, 0, 0, 0, 0, [], 0, 0, 0, 0, 0, 0, 0)).2.2.1 == 0 && ((List.getD o_3.1 (Int.toNat 0) (0, (⟨#[]⟩ : ByteArray), 0, 0, 0, 0, 0, 0, 0, 0, 0, 0, 0, 0, 0, 0, [], 0, 0, 0, 0, 0, 0, 0)).2.2.2.1 == 0 && ((List.getD o_3.1 (Int.toNat 0) (0, (⟨#[]⟩ : ByteArray), 0, 0, 0, 0, 0, 0, 0, 0, 0, 0, 0, 0, 0, 0, [], 0, 0, 0, 0, 0, 0, 0)).2.2.2.2.1 == 0 && ((List.getD o_3.1 (Int.toNat 0) (0, (⟨#[]⟩ : ByteArray), 0, 0, 0, 0, 0, 0, 0, 0, 0, 0, 0, 0, 0, 0, [], 0, 0, 0, 0, 0, 0, 0)).2.2.2.2.2.1 == 0 && ((List.getD o_3.1 (Int.toNat 0) (0, (⟨#[]⟩ : ByteArray), 0, 0, 0, 0, 0, 0, 0, 0, 0, 0, 0, 0, 0, 0, [], 0, 0, 0, 0, 0, 0, 0)).2.2.2.2.2.2.1 == 0 && ((List.getD o_3.1 (Int.toNat 0) (0, (⟨#[]⟩ : ByteArray), 0, 0, 0, 0, 0, 0, 0, 0, 0, 0, 0, 0, 0, 0, [], 0, 0, 0, 0, 0, 0, 0)).2.2.2.2.2.2.2.1 == 0 && ((List.getD o_3.1 (Int.toNat 0) (0, (⟨#[]⟩ : ByteArray), 0, 0, 0, 0, 0, 0, 0, 0, 0, 0, 0, 0, 0, 0, [], 0, 0, 0, 0, 0, 0, 0)).2.2.2.2.2.2.2.2.1 == 0 && (List.getD o_3.1 (Int.toNat 0) (0, (⟨#[]⟩ : ByteArray), 0, 0, 0, 0, 0, 0, 0, 0, 0, 0, 0, 0, 0, 0, [], 0, 0, 0, 0, 0, 0, 0)).2.2.2.2.2.2.2.2.2.1 == 0)))) && ((List.getD o_3.1 (Int.toNat 0) (0, (⟨#[]⟩ : ByteArray), 0, 0, 0, 0, 0, 0, 0, 0, 0, 0, 0, 0, 0, 0, [], 0, 0, 0, 0, 0, 0, 0)).2.2.2.2.2.2.2.2.2.2.1 == 0 && ((List.getD o_3.1 (Int.toNat 0) (0, (⟨#[]⟩ : ByteArray), 0, 0, 0, 0, 0, 0, 0, 0, 0, 0, 0, 0, 0, 0, [], 0, 0, 0, 0, 0, 0, 0)).2.2.2.2.2.2.2.2.2.2.2.1 == 0 && ((List.getD o_3.1 (Int.toNat 0) (0, (⟨#[]⟩ : ByteArray), 0, 0, 0, 0, 0, 0, 0, 0, 0, 0, 0, 0, 0, 0, [], 0, 0, 0, 0, 0, 0, 0)).2.2.2.2.2.2.2.2.2.2.2.2.1 == 0 && ((List.getD o_3.1 (Int.toNat 0) (0, (⟨#[]⟩ : ByteArray), 0, 0, 0, 0, 0, 0, 0, 0, 0, 0, 0, 0, 0, 0, [], 0, 0, 0, 0, 0, 0, 0)).2.2.2.2.2.2.2.2.2.2.2.2.2.1 == 0 && (List.getD o_3.1 (Int.toNat 0) (0, (⟨#[]⟩ : ByteArray), 0, 0, 0, 0, 0, 0, 0, 0, 0, 0, 0, 0, 0, 0, [], 0, 0, 0, 0, 0, 0, 0)).2.2.2.2.2.2.2.2.2.2.2.2.2.2.1 == 0)))))) then
                          bif decide (1 ≤ (List.getD o_3.1 (Int.toNat 0) (0, (⟨#[]⟩ : ByteArray), 0, 0, 0, 0, 0, 0, 0, 0, 0, 0, 0, 0, 0, 0, [], 0, 0, 0, 0, 0, 0, 0)).1) then
                            bif decide ((List.getD o_3.1 (Int.toNat 0) (0, (⟨#[]⟩ : ByteArray), 0, 0, 0, 0, 0, 0, 0, 0, 0, 0, 0, 0, 0, 0, [], 0, 0, 0, 0, 0, 0, 0)).1 ≤ 7) then
                              bif decide ((List.getD o_3.1 (Int.toNat 0) (0, (⟨#[]⟩ : ByteArray), 0, 0, 0, 0, 0, 0, 0, 0, 0, 0, 0, 0, 0, 0, [], 0, 0, 0, 0, 0, 0, 0)).1 = w64 (1 + Int.tmod (w64 x0.1) 7)) then
                                some (true)
                              else
                                some (false)
                            else
                              some (false)
                          else
                            some (false)
                        else
                          some (false)
              else
                none
    else
      (script_Acts k [x0.1, x0.2.1, x0.2.2.1, x0.2.2.2.1, x0.2.2.2.2.1, x0.2.2.2.2.2.1, x0.2.2.2.2.2.2.1, x0.2.2.2.2.2.2.2.1, x0.2.2.2.2.2.2.2.2.1, x0.2.2.2.2.2.2.2.2.2]).bind fun o_3 =>
        bif !decide (Int.ofNat (List.length o_3.1) = 1) then
          some (false)
        else
          bif !decide (o_3.2 = 0) then
            some (false)
          else
            (script_Directive k x0).bind fun o_6 =>
              bif decide (0 < Int.ofNat (List.length o_3.1)) then
                (text_Print k [o_6]).bind fun o_8 =>
                  bif o_8.2 then
                    bif decide ((List.getD o_3.1 (Int.toNat 0) (0, (⟨#[]⟩ : ByteArray), 0, 0, 0, 0, 0, 0, 0, 0, 0, 0, 0, 0, 0, 0, [], 0, 0, 0, 0, 0, 0, 0)).1 = 1) then
                      some (false)
                    else
                      bif decide ((List.getD o_3.1 (Int.toNat 0) (0, (⟨#[]⟩ : ByteArray), 0, 0, 0, 0, 0, 0, 0, 0, 0, 0, 0, 0, 0, 0, [], 0, 0, 0, 0, 0, 0, 0)).1 = 2) then
                        some (false)
                      else
                        some (false)
                  else
                    bif decide ((List.getD o_3.1 (Int.toNat 0) (0, (⟨#[]⟩ : ByteArray), 0, 0, 0, 0, 0, 0, 0, 0, 0, 0, 0, 0, 0, 0, [], 0, 0, 0, 0, 0, 0, 0)).1 = 1) then
                      some (false)
                    else
                      bif decide ((List.getD o_3.1 (Int.toNat 0) (0, (⟨#[]⟩ : ByteArray), 0, 0, 0, 0, 0, 0, 0, 0, 0, 0, 0, 0, 0, 0, [], 0, 0, 0, 0, 0, 0, 0)).1 = 2) then
                        some (false)
                      else
                        some (false)
              else
                none
noncomputable def feluccalaw25_ScriptOnes_X : Cx Tryd.prog [.one (.sc (.bool))] := ⟨fun k => ⟨[feluccalaw25_small_e k, script_Acts_e k, script_Directive_e k, text_Print_e k], [], [hkArr Tryd.prog, hkStr Tryd.prog]⟩, Tryd.f6.ntmps, Tryd.f6.results, []⟩
theorem feluccalaw25_ScriptOnes_eq (k : Nat) (x : T39) : feluccalaw25_ScriptOnes k x = runF feluccalaw25_ScriptOnes_X k feluccalaw25_ScriptOnes_c [.agg lT39] x := by kernel_rfl
noncomputable def feluccalaw25_ScriptOnes_e (k : Nat) : Ent Tryd.prog := ⟨6, [.agg lT39], [.one (.sc (.bool))], feluccalaw25_ScriptOnes k, calls_of (X := feluccalaw25_ScriptOnes_X) (k := k) (c := feluccalaw25_ScriptOnes_c) Tryd.func6 (by kernel_rfl) (by kernel_rfl) (by kernel_rfl) (LoopEqs.all (show LoopEqs feluccalaw25_ScriptOnes_X feluccalaw25_ScriptOnes_c feluccalaw25_ScriptOnes_X.L 0 from trivial)) (fun x => feluccalaw25_ScriptOnes_eq k x), fun _ _ => by kernel_rfl⟩
/-! felucca/feluccalaw25.ScriptCounts -/
noncomputable def feluccalaw25_ScriptCounts_c : Code := Tryd.f12.body.getD .skip
def feluccalaw25_ScriptCounts_L1 : Nat → (Bool × (List GAct) × Int × Int) → Option ((Bool × (List GAct) × Int) ⊕ (Bool))
  | 0, _ => none
  | k + 1, (head, a, n, i) =>
  bif decide (i < Int.ofNat (List.length a)) then
    bif decide (0 ≤ i) then
      bif decide (i < Int.ofNat (List.length a)) then
        (text_Parse k (List.getD a (Int.toNat i) (0, (⟨#[]⟩ : ByteArray), 0, 0, 0, 0, 0, 0, 0, 0, 0, 0, 0, 0, 0, 0, [], 0, 0, 0, 0, 0, 0, 0)).2.1).bind fun o_4 =>
          bif decide (0 ≤ i) then
            bif decide (i < Int.ofNat (List.length a)) then
              bif decide ((List.getD a (Int.toNat i) (0, (⟨#[]⟩ : ByteArray), 0, 0, 0, 0, 0, 0, 0, 0, 0, 0, 0, 0, 0, 0, [], 0, 0, 0, 0, 0, 0, 0)).1 = 1) then
                bif decide (o_4.2.2 = 0) then
                  bif decide (Int.ofNat (List.length o_4.1) < 1) then
                    some (Sum.inr false)
                  else
                    bif decide (2 < Int.ofNat (List.length o_4.1)) then
                      some (Sum.inr false)
                    else
                      bif !decide (o_4.2.2 = 0) then
                        bif !decide (o_4.2.1 = 1) then
                          some (Sum.inr false)
                        else
                          bif decide (0 ≤ i) then
                            bif decide (i < Int.ofNat (List.length a)) then
                              bif !decide ((List.getD a (Int.toNat i) (0, (⟨#[]⟩ : ByteArray), 0, 0, 0, 0, 0, 0, 0, 0, 0, 0, 0, 0, 0, 0, [], 0, 0, 0, 0, 0, 0, 0)).1 = 1) then
                                bif decide (0 ≤ i) then
                                  bif decide (i < Int.ofNat (List.length a)) then
                                    bif !(List.getD a (Int.toNat i) (0, (⟨#[]⟩ : ByteArray), 0, 0, 0, 0, 0, 0, 0, 0, 0, 0, 0, 0, 0, 0, [], 0, 0, 0, 0, 0, 0, 0)).2.1.data.toList == (⟨#[]⟩ : ByteArray).data.toList then
                                      some (Sum.inr false)
                                    else
                                      feluccalaw25_ScriptCounts_L1 k (head, a, n, w64 (i + 1))
                                  else
                                    none
                                else
                                  none
                              else
                                feluccalaw25_ScriptCounts_L1 k (head, a, n, w64 (i + 1))
                            else
                              none
                          else
                            none
                      else
                        bif decide (0 ≤ i) then
                          bif decide (i < Int.ofNat (List.length a)) then
                            bif !decide ((List.getD a (Int.toNat i) (0, (⟨#[]⟩ : ByteArray), 0, 0, 0, 0, 0, 0, 0, 0, 0, 0, 0, 0, 0, 0, [], 0, 0, 0, 0, 0, 0, 0)).1 = 1) then
                              bif decide (0 ≤ i) then
                                bif decide (i < Int.ofNat (List.length a)) then
                                  bif !(List.getD a (Int.toNat i) (0, (⟨#[]⟩ : ByteArray), 0, 0, 0, 0, 0, 0, 0, 0, 0, 0, 0, 0, 0, 0, [], 0, 0, 0, 0, 0, 0, 0)).2.1.data.toList == (⟨#[]⟩ : ByteArray).data.toList then
                                    some (Sum.inr false)
                                  else
                                    feluccalaw25_ScriptCounts_L1 k (head, a, n, w64 (i + 1))
                                else
                                  none
                              else
                                none
                            else
                              feluccalaw25_ScriptCounts_L1 k (head, a, n, w64 (i + 1))
                          else
                            none
                        else
                          none
                else
                  bif !decide (o_4.2.2 = 0) then
                    bif !decide (o_4.2.1 = 1) then
                      some (Sum.inr false)
                    else
                      bif decide (0 ≤ i) then
                        bif decide (i < Int.ofNat (List.length a)) then
                          bif !decide ((List.getD a (Int.toNat i) (0, (⟨#[]⟩ : ByteArray), 0, 0, 0, 0, 0, 0, 0, 0, 0, 0, 0, 0, 0, 0, [], 0, 0, 0, 0, 0, 0, 0)).1 = 1) then
                            bif decide (0 ≤ i) then
                              bif decide (i < Int.ofNat (List.length a)) then
                                bif !(List.getD a (Int.toNat i) (0, (⟨#[]⟩ : ByteArray), 0, 0, 0, 0, 0, 0, 0, 0, 0, 0, 0, 0, 0, 0, [], 0, 0, 0, 0, 0, 0, 0)).2.1.data.toList == (⟨#[]⟩ : ByteArray).data.toList then
                                  some (Sum.inr false)
                                else
                                  feluccalaw25_ScriptCounts_L1 k (head, a, n, w64 (i + 1))
                              else
                                none
                            else
                              none
                          else
                            feluccalaw25_ScriptCounts_L1 k (head, a, n, w64 (i + 1))
                        else
                          none
                      else
                        none
                  else
                    bif decide (0 ≤ i) then
                      bif decide (i < Int.ofNat (List.length a)) then
                        bif !decide ((List.getD a (Int.toNat i) (0, (⟨#[]⟩ : ByteArray), 0, 0, 0, 0, 0, 0, 0, 0, 0, 0, 0, 0, 0, 0, [], 0, 0, 0, 0, 0, 0, 0)).1 = 1) then
                          bif decide (0 ≤ i) then
                            bif decide (i < Int.ofNat (List.length a)) then
                              bif !(List.getD a (Int.toNat i) (0, (⟨#[]⟩ : ByteArray), 0, 0, 0, 0, 0, 0, 0, 0, 0, 0, 0, 0, 0, 0, [], 0, 0, 0, 0, 0, 0, 0)).2.1.data.toList == (⟨#[]⟩ : ByteArray).data.toList then
                                some (Sum.inr false)
                              else
                                feluccalaw25_ScriptCounts_L1 k (head, a, n, w64 (i + 1))
                            else
                              none
                          else
                            none
                        else
                          feluccalaw25_ScriptCounts_L1 k (head, a, n, w64 (i + 1))
                      else
                        none
                    else
                      none
              else
                bif !decide (o_4.2.2 = 0) then
                  bif !decide (o_4.2.1 = 1) then
                    some (Sum.inr false)
                  else
                    bif decide (0 ≤ i) then
                      bif decide (i < Int.ofNat (List.length a)) then
                        bif !decide ((List.getD a (Int.toNat i) (0, (⟨#[]⟩ : ByteArray), 0, 0, 0, 0, 0, 0, 0, 0, 0, 0, 0, 0, 0, 0, [], 0, 0, 0, 0, 0, 0, 0)).1 = 1) then
                          bif decide (0 ≤ i) then
                            bif decide (i < Int.ofNat (List.length a)) then
                              bif !(List.getD a (Int.toNat i) (0, (⟨#[]⟩ : ByteArray), 0, 0, 0, 0, 0, 0, 0, 0, 0, 0, 0, 0, 0, 0, [], 0, 0, 0, 0, 0, 0, 0)).2.1.data.toList == (⟨#[]⟩ : ByteArray).data.toList then
                                some (Sum.inr false)
                              else
                                feluccalaw25_ScriptCounts_L1 k (head, a, n, w64 (i + 1))
                            else
                              none
                          else
                            none
                        else
                          feluccalaw25_ScriptCounts_L1 k (head, a, n, w64 (i + 1))
                      else
                        none
                    else
                      none
                else
                  bif decide (0 ≤ i) then
                    bif decide (i < Int.ofNat (List.length a)) then
                      bif !decide ((List.getD a (Int.toNat i) (0, (⟨#[]⟩ : ByteArray), 0, 0, 0, 0, 0, 0, 0, 0, 0, 0, 0, 0, 0, 0, [], 0, 0, 0, 0, 0, 0, 0)).1 = 1) then
                        bif decide (0 ≤ i) then
                          bif decide (i < Int.ofNat (List.length a)) then
                            bif !(List.getD a (Int.toNat i) (0, (⟨#[]⟩ : ByteArray), 0, 0, 0, 0, 0, 0, 0, 0, 0, 0, 0, 0, 0, 0, [], 0, 0, 0, 0, 0, 0, 0)).2.1.data.toList == (⟨#[]⟩ : ByteArray).data.toList then
                              some (Sum.inr false)
                            else
                              feluccalaw25_ScriptCounts_L1 k (head, a, n, w64 (i + 1))
                          else
                            none
                        else
                          none
                      else
                        feluccalaw25_ScriptCounts_L1 k (head, a, n, w64 (i + 1))
                    else
                      none
                  else
                    none
            else
              none
          else
            none
      else
        none
    else
      none
  else
    some (Sum.inl (head, a, n))
def feluccalaw25_ScriptCounts_L0 : Nat → (Bool × (List GAct) × Int × Int) → Option ((Bool × (List GAct) × Int) ⊕ (Bool))
  | 0, _ => none
  | k + 1, (head, a, n, do7) =>
  bif decide (do7 ≤ 7) then
    (script_Count k (a, do7)).bind fun o_2 =>
      feluccalaw25_ScriptCounts_L0 k (head, a, w64 (n + o_2), w64 (do7 + 1))
  else
    some (Sum.inl (head, a, n))
def feluccalaw25_ScriptCounts (k : Nat) : (List Int) → Option (Bool) := fun (b) =>
  (feluccalaw25_small k ()).bind fun o_1 =>
    bif o_1 then
      bif decide (500 < Int.ofNat (List.length b)) then
        some (true)
      else
        (script_Acts k b).bind fun o_4 =>
          (feluccalaw25_ScriptCounts_L0 k (true, o_4.1, 0, 1)).bind fun o_5 =>
            match o_5 with
            | .inl o_6 =>
              (feluccalaw25_ScriptCounts_L1 k (o_6.1, o_6.2.1, o_6.2.2, 0)).bind fun o_7 =>
                match o_7 with
                | .inl o_8 =>
                  bif o_8.1 then
                    bif decide (o_8.2.2 = Int.ofNat (List.length o_8.2.1)) then
                      (script_Count k (o_8.2.1, 0)).bind fun o_11 =>
                        bif decide (o_11 = 0) then
                          (script_Same k (o_8.2.1, o_8.2.1)).bind fun o_13 =>
                            bif o_13 then
                              some (true)
                            else
                              some (false)
                        else
                          some (false)
                    else
                      some (false)
                  else
                    some (false)
                | .inr o_8 =>
                  some (o_8)
            | .inr o_6 =>
              some (o_6)
    else
      bif decide (500 < Int.ofNat (List.length b)) then
        some (false)
      else
        (script_Acts k b).bind fun o_4 =>
          (feluccalaw25_ScriptCounts_L0 k (false, o_4.1, 0, 1)).bind fun o_5 =>
            match o_5 with
            | .inl o_6 =>
              (feluccalaw25_ScriptCounts_L1 k (o_6.1, o_6.2.1, o_6.2.2, 0)).bind fun o_7 =>
                match o_7 with
                | .inl o_8 =>
                  bif o_8.1 then
                    bif decide (o_8.2.2 = Int.ofNat (List.length o_8.2.1)) then
                      (script_Count k (o_8.2.1, 0)).bind fun o_11 =>
                        bif decide (o_11 = 0) then
                          (script_Same k (o_8.2.1, o_8.2.1)).bind fun o_13 =>
                            bif o_13 then
                              some (true)
                            else
                              some (false)
                        else
                          some (false)
                    else
                      some (false)
                  else
                    some (false)
                | .inr o_8 =>
                  some (o_8)
            | .inr o_6 =>
              some (o_6)
noncomputable def feluccalaw25_ScriptCounts_X : Cx Tryd.prog [.one (.sc (.bool))] := ⟨fun k => ⟨[feluccalaw25_small_e k, script_Acts_e k, script_Same_e k, script_Count_e k, text_Parse_e k], [], [hkArr Tryd.prog, hkStr Tryd.prog]⟩, Tryd.f12.ntmps, Tryd.f12.results, [some ⟨0, [(3, .one (.sc (.bool))), (4, .one (.own 45 kGAct)), (6, .one (.sc (.int .i64))), (7, .one (.sc (.int .i64)))], [(3, .one (.sc (.bool))), (4, .one (.own 45 kGAct)), (6, .one (.sc (.int .i64)))], feluccalaw25_ScriptCounts_L0⟩, some ⟨2, [(3, .one (.sc (.bool))), (4, .one (.own 45 kGAct)), (6, .one (.sc (.int .i64))), (8, .one (.sc (.int .i64)))], [(3, .one (.sc (.bool))), (4, .one (.own 45 kGAct)), (6, .one (.sc (.int .i64)))], feluccalaw25_ScriptCounts_L1⟩]⟩
theorem feluccalaw25_ScriptCounts_L1_eq (k : Nat) (x : Bool × (List GAct) × Int × Int) : feluccalaw25_ScriptCounts_L1 (k + 1) x = roundF feluccalaw25_ScriptCounts_X k ⟨2, [(3, .one (.sc (.bool))), (4, .one (.own 45 kGAct)), (6, .one (.sc (.int .i64))), (8, .one (.sc (.int .i64)))], [(3, .one (.sc (.bool))), (4, .one (.own 45 kGAct)), (6, .one (.sc (.int .i64)))], feluccalaw25_ScriptCounts_L1⟩ 1 (lp feluccalaw25_ScriptCounts_c 1) x := by kernel_rfl
theorem feluccalaw25_ScriptCounts_L0_eq (k : Nat) (x : Bool × (List GAct) × Int × Int) : feluccalaw25_ScriptCounts_L0 (k + 1) x = roundF feluccalaw25_ScriptCounts_X k ⟨0, [(3, .one (.sc (.bool))), (4, .one (.own 45 kGAct)), (6, .one (.sc (.int .i64))), (7, .one (.sc (.int .i64)))], [(3, .one (.sc (.bool))), (4, .one (.own 45 kGAct)), (6, .one (.sc (.int .i64)))], feluccalaw25_ScriptCounts_L0⟩ 0 (lp feluccalaw25_ScriptCounts_c 0) x := by kernel_rfl
theorem feluccalaw25_ScriptCounts_eq (k : Nat) (x : List Int) : feluccalaw25_ScriptCounts k x = runF feluccalaw25_ScriptCounts_X k feluccalaw25_ScriptCounts_c [.one (.row 5 [.int .u8])] x := by kernel_rfl
noncomputable def feluccalaw25_ScriptCounts_e (k : Nat) : Ent Tryd.prog := ⟨12, [.one (.row 5 [.int .u8])], [.one (.sc (.bool))], feluccalaw25_ScriptCounts k, calls_of (X := feluccalaw25_ScriptCounts_X) (k := k) (c := feluccalaw25_ScriptCounts_c) Tryd.func12 (by kernel_rfl) (by kernel_rfl) (by kernel_rfl) (LoopEqs.all (show LoopEqs feluccalaw25_ScriptCounts_X feluccalaw25_ScriptCounts_c feluccalaw25_ScriptCounts_X.L 0 from ⟨⟨fun _ => rfl, fun k x => feluccalaw25_ScriptCounts_L0_eq k x⟩, ⟨⟨fun _ => rfl, fun k x => feluccalaw25_ScriptCounts_L1_eq k x⟩, trivial⟩⟩)) (fun x => feluccalaw25_ScriptCounts_eq k x), fun _ _ => by kernel_rfl⟩
end Go.Proofs.YtaknikdbnfmlfaaDoor.Ex
