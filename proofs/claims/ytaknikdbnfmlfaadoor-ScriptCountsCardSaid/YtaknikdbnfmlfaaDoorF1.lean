import Derived.Test.YtaknikdbnfmlfaaDoorStr
import Derived.Test.YtaknikdbnfmlfaaDoorBld
import Derived.Test.YtaknikdbnfmlfaaDoorForms
import Derived.Test.YtaknikdbnfmlfaaDoorFnd
import Derived.Test.YtaknikdbnfmlfaaDoorExY
import Derived.Test.YtaknikdbnfmlfaaDoorExAA
import Derived.Test.YtaknikdbnfmlfaaDoorExEE
import Derived.Test.YtaknikdbnfmlfaaDoorProg
namespace Go.Proofs.YtaknikdbnfmlfaaDoor.Ex
open Go
set_option linter.unusedVariables false
set_option maxHeartbeats 0
abbrev GDirective := Int × Int × Int × Int × Int × Int × Int × Int × Int × Int × Int × Int × Int
abbrev lGDirective : List LK := [.sc (.int .i64), .sc (.int .i64), .sc (.int .i64), .sc (.int .i64), .sc (.int .i64), .sc (.int .i64), .sc (.int .i64), .sc (.int .i64), .sc (.int .i64), .sc (.int .i64), .sc (.int .i64), .sc (.int .i64), .sc (.int .i64)]
abbrev toGDirective : List TL := [.sc (.int .i64), .sc (.int .i64), .sc (.int .i64), .sc (.int .i64), .sc (.int .i64), .sc (.int .i64), .sc (.int .i64), .sc (.int .i64), .sc (.int .i64), .sc (.int .i64), .sc (.int .i64), .sc (.int .i64), .sc (.int .i64)]
abbrev trGDirective : List TL := [.sc (.int .i64), .sc (.int .i64), .sc (.int .i64), .sc (.int .i64), .sc (.int .i64), .sc (.int .i64), .sc (.int .i64), .sc (.int .i64), .sc (.int .i64), .sc (.int .i64), .sc (.int .i64), .sc (.int .i64), .sc (.int .i64)]
abbrev kGDirective : List SK := [.int .i64, .int .i64, .int .i64, .int .i64, .int .i64, .int .i64, .int .i64, .int .i64, .int .i64, .int .i64, .int .i64, .int .i64, .int .i64]
abbrev GContact := Int × Int × Int × Int × Int × Int
abbrev lGContact : List LK := [.sc (.int .i64), .sc (.int .i64), .sc (.int .i64), .sc (.int .i64), .sc (.int .i64), .sc (.int .i64)]
abbrev toGContact : List TL := [.sc (.int .i64), .sc (.int .i64), .sc (.int .i64), .sc (.int .i64), .sc (.int .i64), .sc (.int .i64)]
abbrev trGContact : List TL := [.sc (.int .i64), .sc (.int .i64), .sc (.int .i64), .sc (.int .i64), .sc (.int .i64), .sc (.int .i64)]
abbrev kGContact : List SK := [.int .i64, .int .i64, .int .i64, .int .i64, .int .i64, .int .i64]
abbrev GRange := Int × Int × Int × Int × Int
abbrev lGRange : List LK := [.sc (.int .i64), .sc (.int .i64), .sc (.int .i64), .sc (.int .i64), .sc (.int .i64)]
abbrev toGRange : List TL := [.sc (.int .i64), .sc (.int .i64), .sc (.int .i64), .sc (.int .i64), .sc (.int .i64)]
abbrev trGRange : List TL := [.sc (.int .i64), .sc (.int .i64), .sc (.int .i64), .sc (.int .i64), .sc (.int .i64)]
abbrev kGRange : List SK := [.int .i64, .int .i64, .int .i64, .int .i64, .int .i64]
/-! felucca/num.In -/
noncomputable def num_In_c : Code := Tryd.f93.body.getD .skip
def num_In (k : Nat) : (Int × Int × Int) → Option (Bool) := fun (n, low, high) =>
  bif decide (low ≤ n) then
    bif decide (n ≤ high) then
      some (true)
    else
      some (false)
  else
    some (false)
noncomputable def num_In_X : Cx Tryd.prog [.one (.sc (.bool))] := ⟨fun k => ⟨[], [], [hkStr Tryd.prog]⟩, Tryd.f93.ntmps, Tryd.f93.results, []⟩
theorem num_In_eq (k : Nat) (x : Int × Int × Int) : num_In k x = runF num_In_X k num_In_c [.one (.sc (.int .i64)), .one (.sc (.int .i64)), .one (.sc (.int .i64))] x := by kernel_rfl
noncomputable def num_In_e (k : Nat) : Ent Tryd.prog := ⟨93, [.one (.sc (.int .i64)), .one (.sc (.int .i64)), .one (.sc (.int .i64))], [.one (.sc (.bool))], num_In k, calls_of (X := num_In_X) (k := k) (c := num_In_c) Tryd.func93 (by kernel_rfl) (by kernel_rfl) (by kernel_rfl) (LoopEqs.all (show LoopEqs num_In_X num_In_c num_In_X.L 0 from trivial)) (fun x => num_In_eq k x), fun _ _ => by kernel_rfl⟩
/-! felucca/check.Node -/
noncomputable def check_Node_c : Code := Tryd.f104.body.getD .skip
def check_Node (k : Nat) : Int → Option (Bool) := fun (n) =>
  (num_In k (n, 1, 255)).bind fun o_1 =>
    bif o_1 then
      some (true)
    else
      some (false)
noncomputable def check_Node_X : Cx Tryd.prog [.one (.sc (.bool))] := ⟨fun k => ⟨[num_In_e k], [], [hkStr Tryd.prog]⟩, Tryd.f104.ntmps, Tryd.f104.results, []⟩
theorem check_Node_eq (k : Nat) (x : Int) : check_Node k x = runF check_Node_X k check_Node_c [.one (.sc (.int .i64))] x := by kernel_rfl
noncomputable def check_Node_e (k : Nat) : Ent Tryd.prog := ⟨104, [.one (.sc (.int .i64))], [.one (.sc (.bool))], check_Node k, calls_of (X := check_Node_X) (k := k) (c := check_Node_c) Tryd.func104 (by kernel_rfl) (by kernel_rfl) (by kernel_rfl) (LoopEqs.all (show LoopEqs check_Node_X check_Node_c check_Node_X.L 0 from trivial)) (fun x => check_Node_eq k x), fun _ _ => by kernel_rfl⟩
/-! felucca/check.way -/
noncomputable def check_way_c : Code := Tryd.f91.body.getD .skip
def check_way (k : Nat) : (Int × Int) → Option (Bool) := fun (from0, to1) =>
  (check_Node k from0).bind fun o_1 =>
    bif o_1 then
      (check_Node k to1).bind fun o_3 =>
        bif o_3 then
          bif !decide (from0 = to1) then
            some (true)
          else
            some (false)
        else
          some (false)
    else
      some (false)
noncomputable def check_way_X : Cx Tryd.prog [.one (.sc (.bool))] := ⟨fun k => ⟨[check_Node_e k], [], [hkStr Tryd.prog]⟩, Tryd.f91.ntmps, Tryd.f91.results, []⟩
theorem check_way_eq (k : Nat) (x : Int × Int) : check_way k x = runF check_way_X k check_way_c [.one (.sc (.int .i64)), .one (.sc (.int .i64))] x := by kernel_rfl
noncomputable def check_way_e (k : Nat) : Ent Tryd.prog := ⟨91, [.one (.sc (.int .i64)), .one (.sc (.int .i64))], [.one (.sc (.bool))], check_way k, calls_of (X := check_way_X) (k := k) (c := check_way_c) Tryd.func91 (by kernel_rfl) (by kernel_rfl) (by kernel_rfl) (LoopEqs.all (show LoopEqs check_way_X check_way_c check_way_X.L 0 from trivial)) (fun x => check_way_eq k x), fun _ _ => by kernel_rfl⟩
/-! felucca/check.span -/
noncomputable def check_span_c : Code := Tryd.f92.body.getD .skip
def check_span (k : Nat) : (Int × Int) → Option (Bool) := fun (start, end1) =>
  (num_In k (start, 0, w64 (end1 - 1))).bind fun o_1 =>
    bif o_1 then
      (num_In k (end1, 1, 2147483647)).bind fun o_3 =>
        bif o_3 then
          some (true)
        else
          some (false)
    else
      some (false)
noncomputable def check_span_X : Cx Tryd.prog [.one (.sc (.bool))] := ⟨fun k => ⟨[num_In_e k], [], [hkStr Tryd.prog]⟩, Tryd.f92.ntmps, Tryd.f92.results, []⟩
theorem check_span_eq (k : Nat) (x : Int × Int) : check_span k x = runF check_span_X k check_span_c [.one (.sc (.int .i64)), .one (.sc (.int .i64))] x := by kernel_rfl
noncomputable def check_span_e (k : Nat) : Ent Tryd.prog := ⟨92, [.one (.sc (.int .i64)), .one (.sc (.int .i64))], [.one (.sc (.bool))], check_span k, calls_of (X := check_span_X) (k := k) (c := check_span_c) Tryd.func92 (by kernel_rfl) (by kernel_rfl) (by kernel_rfl) (LoopEqs.all (show LoopEqs check_span_X check_span_c check_span_X.L 0 from trivial)) (fun x => check_span_eq k x), fun _ _ => by kernel_rfl⟩
/-! felucca/check.Contact -/
noncomputable def check_Contact_c : Code := Tryd.f80.body.getD .skip
def check_Contact (k : Nat) : GContact → Option (Bool) := fun (c0) =>
  (check_way k (c0.2.1, c0.2.2.1)).bind fun o_1 =>
    bif o_1 then
      (check_span k (c0.2.2.2.1, c0.2.2.2.2.1)).bind fun o_3 =>
        bif o_3 then
          (num_In k (c0.1, 1, 1048576)).bind fun o_5 =>
            bif o_5 then
              (num_In k (c0.2.2.2.2.2, 1, 2147483647)).bind fun o_7 =>
                bif o_7 then
                  some (true)
                else
                  some (false)
            else
              some (false)
        else
          some (false)
    else
      some (false)
noncomputable def check_Contact_X : Cx Tryd.prog [.one (.sc (.bool))] := ⟨fun k => ⟨[check_way_e k, check_span_e k, num_In_e k], [], [hkStr Tryd.prog]⟩, Tryd.f80.ntmps, Tryd.f80.results, []⟩
theorem check_Contact_eq (k : Nat) (x : GContact) : check_Contact k x = runF check_Contact_X k check_Contact_c [.agg lGContact] x := by kernel_rfl
noncomputable def check_Contact_e (k : Nat) : Ent Tryd.prog := ⟨80, [.agg lGContact], [.one (.sc (.bool))], check_Contact k, calls_of (X := check_Contact_X) (k := k) (c := check_Contact_c) Tryd.func80 (by kernel_rfl) (by kernel_rfl) (by kernel_rfl) (LoopEqs.all (show LoopEqs check_Contact_X check_Contact_c check_Contact_X.L 0 from trivial)) (fun x => check_Contact_eq k x), fun _ _ => by kernel_rfl⟩
/-! felucca/check.Range -/
noncomputable def check_Range_c : Code := Tryd.f81.body.getD .skip
def check_Range (k : Nat) : GRange → Option (Bool) := fun (r) =>
  (check_way k (r.1, r.2.1)).bind fun o_1 =>
    bif o_1 then
      (check_span k (r.2.2.1, r.2.2.2.1)).bind fun o_3 =>
        bif o_3 then
          (num_In k (r.2.2.2.2, 0, 2147483647)).bind fun o_5 =>
            bif o_5 then
              some (true)
            else
              some (false)
        else
          some (false)
    else
      some (false)
noncomputable def check_Range_X : Cx Tryd.prog [.one (.sc (.bool))] := ⟨fun k => ⟨[check_way_e k, check_span_e k, num_In_e k], [], [hkStr Tryd.prog]⟩, Tryd.f81.ntmps, Tryd.f81.results, []⟩
theorem check_Range_eq (k : Nat) (x : GRange) : check_Range k x = runF check_Range_X k check_Range_c [.agg lGRange] x := by kernel_rfl
noncomputable def check_Range_e (k : Nat) : Ent Tryd.prog := ⟨81, [.agg lGRange], [.one (.sc (.bool))], check_Range k, calls_of (X := check_Range_X) (k := k) (c := check_Range_c) Tryd.func81 (by kernel_rfl) (by kernel_rfl) (by kernel_rfl) (LoopEqs.all (show LoopEqs check_Range_X check_Range_c check_Range_X.L 0 from trivial)) (fun x => check_Range_eq k x), fun _ _ => by kernel_rfl⟩
/-! felucca/direct.may -/
noncomputable def direct_may_c : Code := Tryd.f50.body.getD .skip
def direct_may (k : Nat) : GDirective → Option (Bool) := fun (d) =>
  bif !decide (d.1 = 1) then
    bif decide (d.1 = 3) then
      bif decide (d.2.1 = 1) then
        (check_Contact k (d.2.2.1, 1, 2, 0, 1, d.2.2.2.2.2.2.2.1)).bind fun o_4 =>
          bif o_4 then
            some (true)
          else
            some (false)
      else
        (check_Range k (d.2.2.2.2.2.2.2.2.1, d.2.2.2.2.2.2.2.2.2.1, d.2.2.2.2.2.2.2.2.2.2.1, 2147483647, d.2.2.2.2.2.2.2.2.2.2.2.2)).bind fun o_4 =>
          bif o_4 then
            some (true)
          else
            some (false)
    else
      bif decide (d.2.1 = 1) then
        (check_Contact k (d.2.2.1, 1, 2, 0, 1, mx d.2.2.2.2.2.2.2.1 1)).bind fun o_4 =>
          bif o_4 then
            some (true)
          else
            some (false)
      else
        (check_Range k (d.2.2.2.2.2.2.2.2.1, d.2.2.2.2.2.2.2.2.2.1, d.2.2.2.2.2.2.2.2.2.2.1, 2147483647, d.2.2.2.2.2.2.2.2.2.2.2.2)).bind fun o_4 =>
          bif o_4 then
            some (true)
          else
            some (false)
  else
    bif decide (d.2.1 = 1) then
      (check_Contact k (d.2.2.1, d.2.2.2.1, d.2.2.2.2.1, d.2.2.2.2.2.1, d.2.2.2.2.2.2.1, d.2.2.2.2.2.2.2.1)).bind fun o_3 =>
        bif o_3 then
          some (true)
        else
          some (false)
    else
      (check_Range k d.2.2.2.2.2.2.2.2).bind fun o_3 =>
        bif o_3 then
          some (true)
        else
          some (false)
noncomputable def direct_may_X : Cx Tryd.prog [.one (.sc (.bool))] := ⟨fun k => ⟨[check_Contact_e k, check_Range_e k], [], [hkStr Tryd.prog]⟩, Tryd.f50.ntmps, Tryd.f50.results, []⟩
theorem direct_may_eq (k : Nat) (x : GDirective) : direct_may k x = runF direct_may_X k direct_may_c [.agg lGDirective] x := by kernel_rfl
noncomputable def direct_may_e (k : Nat) : Ent Tryd.prog := ⟨50, [.agg lGDirective], [.one (.sc (.bool))], direct_may k, calls_of (X := direct_may_X) (k := k) (c := direct_may_c) Tryd.func50 (by kernel_rfl) (by kernel_rfl) (by kernel_rfl) (LoopEqs.all (show LoopEqs direct_may_X direct_may_c direct_may_X.L 0 from trivial)) (fun x => direct_may_eq k x), fun _ _ => by kernel_rfl⟩
/-! felucca/direct.Right -/
noncomputable def direct_Right_c : Code := Tryd.f18.body.getD .skip
def direct_Right (k : Nat) : GDirective → Option (Bool) := fun (d) =>
  bif decide (d.1 = 1) && decide (d.2.1 = 1) then
    bif d.1 == d.1 && (d.2.1 == d.2.1 && (d.2.2.1 == d.2.2.1 && (d.2.2.2.1 == d.2.2.2.1 && (d.2.2.2.2.1 == d.2.2.2.2.1 && (d.2.2.2.2.2.1 == d.2.2.2.2.2.1 && (d.2.2.2.2.2.2.1 == d.2.2.2.2.2.2.1 && d.2.2.2.2.2.2.2.1 == d.2.2.2.2.2.2.2.1)))) && (0 == d.2.2.2.2.2.2.2.2.1 && (0 == d.2.2.2.2.2.2.2.2.2.1 && (0 == d.2.2.2.2.2.2.2.2.2.2.1 && (0 == d.2.2.2.2.2.2.2.2.2.2.2.1 && 0 == d.2.2.2.2.2.2.2.2.2.2.2.2)))))) then
      (direct_may k d).bind fun o_3 =>
        bif o_3 then
          some (true)
        else
          some (false)
    else
      some (false)
  else
    bif decide (d.1 = 2) && decide (d.2.1 = 1) then
      bif d.1 == d.1 && (d.2.1 == d.2.1 && (d.2.2.1 == d.2.2.1 && (0 == d.2.2.2.1 && (0 == d.2.2.2.2.1 && (0 == d.2.2.2.2.2.1 && (0 == d.2.2.2.2.2.2.1 && 0 == d.2.2.2.2.2.2.2.1)))) && (0 == d.2.2.2.2.2.2.2.2.1 && (0 == d.2.2.2.2.2.2.2.2.2.1 && (0 == d.2.2.2.2.2.2.2.2.2.2.1 && (0 == d.2.2.2.2.2.2.2.2.2.2.2.1 && 0 == d.2.2.2.2.2.2.2.2.2.2.2.2)))))) then
        (direct_may k d).bind fun o_4 =>
          bif o_4 then
            some (true)
          else
            some (false)
      else
        some (false)
    else
      bif decide (d.1 = 3) && decide (d.2.1 = 1) then
        bif d.1 == d.1 && (d.2.1 == d.2.1 && (d.2.2.1 == d.2.2.1 && (0 == d.2.2.2.1 && (0 == d.2.2.2.2.1 && (0 == d.2.2.2.2.2.1 && (0 == d.2.2.2.2.2.2.1 && d.2.2.2.2.2.2.2.1 == d.2.2.2.2.2.2.2.1)))) && (0 == d.2.2.2.2.2.2.2.2.1 && (0 == d.2.2.2.2.2.2.2.2.2.1 && (0 == d.2.2.2.2.2.2.2.2.2.2.1 && (0 == d.2.2.2.2.2.2.2.2.2.2.2.1 && 0 == d.2.2.2.2.2.2.2.2.2.2.2.2)))))) then
          (direct_may k d).bind fun o_5 =>
            bif o_5 then
              some (true)
            else
              some (false)
        else
          some (false)
      else
        bif decide (d.1 = 1) && decide (d.2.1 = 2) then
          bif d.1 == d.1 && (d.2.1 == d.2.1 && (0 == d.2.2.1 && (0 == d.2.2.2.1 && (0 == d.2.2.2.2.1 && (0 == d.2.2.2.2.2.1 && (0 == d.2.2.2.2.2.2.1 && 0 == d.2.2.2.2.2.2.2.1)))) && (d.2.2.2.2.2.2.2.2.1 == d.2.2.2.2.2.2.2.2.1 && (d.2.2.2.2.2.2.2.2.2.1 == d.2.2.2.2.2.2.2.2.2.1 && (d.2.2.2.2.2.2.2.2.2.2.1 == d.2.2.2.2.2.2.2.2.2.2.1 && (d.2.2.2.2.2.2.2.2.2.2.2.1 == d.2.2.2.2.2.2.2.2.2.2.2.1 && d.2.2.2.2.2.2.2.2.2.2.2.2 == d.2.2.2.2.2.2.2.2.2.2.2.2)))))) then
            (direct_may k d).bind fun o_6 =>
              bif o_6 then
                some (true)
              else
                some (false)
          else
            some (false)
        else
          bif decide (d.1 = 2) && decide (d.2.1 = 2) then
            bif d.1 == d.1 && (d.2.1 == d.2.1 && (0 == d.2.2.1 && (0 == d.2.2.2.1 && (0 == d.2.2.2.2.1 && (0 == d.2.2.2.2.2.1 && (0 == d.2.2.2.2.2.2.1 && 0 == d.2.2.2.2.2.2.2.1)))) && (d.2.2.2.2.2.2.2.2.1 == d.2.2.2.2.2.2.2.2.1 && (d.2.2.2.2.2.2.2.2.2.1 == d.2.2.2.2.2.2.2.2.2.1 && (d.2.2.2.2.2.2.2.2.2.2.1 == d.2.2.2.2.2.2.2.2.2.2.1 && (0 == d.2.2.2.2.2.2.2.2.2.2.2.1 && 0 == d.2.2.2.2.2.2.2.2.2.2.2.2)))))) then
              (direct_may k d).bind fun o_7 =>
                bif o_7 then
                  some (true)
                else
                  some (false)
            else
              some (false)
          else
            bif decide (d.1 = 3) && decide (d.2.1 = 2) then
              bif d.1 == d.1 && (d.2.1 == d.2.1 && (0 == d.2.2.1 && (0 == d.2.2.2.1 && (0 == d.2.2.2.2.1 && (0 == d.2.2.2.2.2.1 && (0 == d.2.2.2.2.2.2.1 && 0 == d.2.2.2.2.2.2.2.1)))) && (d.2.2.2.2.2.2.2.2.1 == d.2.2.2.2.2.2.2.2.1 && (d.2.2.2.2.2.2.2.2.2.1 == d.2.2.2.2.2.2.2.2.2.1 && (d.2.2.2.2.2.2.2.2.2.2.1 == d.2.2.2.2.2.2.2.2.2.2.1 && (0 == d.2.2.2.2.2.2.2.2.2.2.2.1 && d.2.2.2.2.2.2.2.2.2.2.2.2 == d.2.2.2.2.2.2.2.2.2.2.2.2)))))) then
                (direct_may k d).bind fun o_8 =>
                  bif o_8 then
                    some (true)
                  else
                    some (false)
              else
                some (false)
            else
              some (false)
noncomputable def direct_Right_X : Cx Tryd.prog [.one (.sc (.bool))] := ⟨fun k => ⟨[direct_may_e k], [], [hkMapC fC, hkMap fT, hkClo [fClo1, fClo2, fClo3, fClo4, fClo5, fClo6], hkRow Tryd.prog, hkStr Tryd.prog]⟩, Tryd.f18.ntmps, Tryd.f18.results, [none]⟩
theorem direct_Right_eq (k : Nat) (x : GDirective) : direct_Right k x = runF direct_Right_X k direct_Right_c [.agg lGDirective] x := by kernel_rfl
noncomputable def direct_Right_e (k : Nat) : Ent Tryd.prog := ⟨18, [.agg lGDirective], [.one (.sc (.bool))], direct_Right k, calls_of (X := direct_Right_X) (k := k) (c := direct_Right_c) Tryd.func18 (by kernel_rfl) (by kernel_rfl) (by kernel_rfl) (LoopEqs.all (show LoopEqs direct_Right_X direct_Right_c direct_Right_X.L 0 from trivial)) (fun x => direct_Right_eq k x), fun _ _ => by kernel_rfl⟩
/-! felucca/direct.Words -/
noncomputable def direct_Words_c : Code := Tryd.f14.body.getD .skip
def direct_Words (k : Nat) : GDirective → Option ((List ByteArray) × Bool) := fun (d) =>
  (direct_Right k d).bind fun o_1 =>
    bif o_1 then
      bif decide (d.1 = 1) && decide (d.2.1 = 1) then
        (num_Text k d.2.2.1).bind fun o_4 =>
          (num_Text k d.2.2.2.1).bind fun o_5 =>
            (num_Text k d.2.2.2.2.1).bind fun o_6 =>
              (num_Text k d.2.2.2.2.2.1).bind fun o_7 =>
                (num_Text k d.2.2.2.2.2.2.1).bind fun o_8 =>
                  (num_Text k d.2.2.2.2.2.2.2.1).bind fun o_9 =>
                    some (([(⟨#[97]⟩ : ByteArray), (⟨#[99, 111, 110, 116, 97, 99, 116]⟩ : ByteArray)] ++ [o_4] ++ [o_5] ++ [o_6] ++ [o_7] ++ [o_8] ++ [o_9], true))
      else
        bif decide (d.1 = 2) && decide (d.2.1 = 1) then
          (num_Text k d.2.2.1).bind fun o_5 =>
            some (([(⟨#[100]⟩ : ByteArray), (⟨#[99, 111, 110, 116, 97, 99, 116]⟩ : ByteArray)] ++ [o_5], true))
        else
          bif decide (d.1 = 3) && decide (d.2.1 = 1) then
            (num_Text k d.2.2.1).bind fun o_6 =>
              (num_Text k d.2.2.2.2.2.2.2.1).bind fun o_7 =>
                some (([(⟨#[99]⟩ : ByteArray), (⟨#[99, 111, 110, 116, 97, 99, 116]⟩ : ByteArray)] ++ [o_6] ++ [o_7], true))
          else
            bif decide (d.1 = 1) && decide (d.2.1 = 2) then
              (num_Text k d.2.2.2.2.2.2.2.2.1).bind fun o_7 =>
                (num_Text k d.2.2.2.2.2.2.2.2.2.1).bind fun o_8 =>
                  (num_Text k d.2.2.2.2.2.2.2.2.2.2.1).bind fun o_9 =>
                    (num_Text k d.2.2.2.2.2.2.2.2.2.2.2.1).bind fun o_10 =>
                      (num_Text k d.2.2.2.2.2.2.2.2.2.2.2.2).bind fun o_11 =>
                        some (([(⟨#[97]⟩ : ByteArray), (⟨#[114, 97, 110, 103, 101]⟩ : ByteArray)] ++ [o_7] ++ [o_8] ++ [o_9] ++ [o_10] ++ [o_11], true))
            else
              bif decide (d.1 = 2) && decide (d.2.1 = 2) then
                (num_Text k d.2.2.2.2.2.2.2.2.1).bind fun o_8 =>
                  (num_Text k d.2.2.2.2.2.2.2.2.2.1).bind fun o_9 =>
                    (num_Text k d.2.2.2.2.2.2.2.2.2.2.1).bind fun o_10 =>
                      some (([(⟨#[100]⟩ : ByteArray), (⟨#[114, 97, 110, 103, 101]⟩ : ByteArray)] ++ [o_8] ++ [o_9] ++ [o_10], true))
              else
                bif decide (d.1 = 3) && decide (d.2.1 = 2) then
                  (num_Text k d.2.2.2.2.2.2.2.2.1).bind fun o_9 =>
                    (num_Text k d.2.2.2.2.2.2.2.2.2.1).bind fun o_10 =>
                      (num_Text k d.2.2.2.2.2.2.2.2.2.2.1).bind fun o_11 =>
                        (num_Text k d.2.2.2.2.2.2.2.2.2.2.2.2).bind fun o_12 =>
                          some (([(⟨#[99]⟩ : ByteArray), (⟨#[114, 97, 110, 103, 101]⟩ : ByteArray)] ++ [o_9] ++ [o_10] ++ [o_11] ++ [o_12], true))
                else
                  none
    else
      some (([], false))
noncomputable def direct_Words_X : Cx Tryd.prog [.one (.row 9 [.str]), .one (.sc (.bool))] := ⟨fun k => ⟨[direct_Right_e k, num_Text_e k], [], [hkMapC fC, hkMap fT, hkClo [fClo1, fClo2, fClo3, fClo4, fClo5, fClo6], hkRow Tryd.prog, hkStr Tryd.prog]⟩, Tryd.f14.ntmps, Tryd.f14.results, [none]⟩
theorem direct_Words_eq (k : Nat) (x : GDirective) : direct_Words k x = runF direct_Words_X k direct_Words_c [.agg lGDirective] x := by kernel_rfl
noncomputable def direct_Words_e (k : Nat) : Ent Tryd.prog := ⟨14, [.agg lGDirective], [.one (.row 9 [.str]), .one (.sc (.bool))], direct_Words k, calls_of (X := direct_Words_X) (k := k) (c := direct_Words_c) Tryd.func14 (by kernel_rfl) (by kernel_rfl) (by kernel_rfl) (LoopEqs.all (show LoopEqs direct_Words_X direct_Words_c direct_Words_X.L 0 from trivial)) (fun x => direct_Words_eq k x), fun _ _ => by kernel_rfl⟩
/-! felucca/direct.Parse -/
noncomputable def direct_Parse_c : Code := Tryd.f16.body.getD .skip
def direct_Parse (k : Nat) : (List ByteArray) → Option (GDirective × Int) := fun (l) =>
  (direct_find k l).bind fun o_1 =>
    bif o_1.2 then
      bif decide (o_1.1.1 = 1) && decide (o_1.1.2.1 = 1) then
        bif decide (w64 (2 + 0) < Int.ofNat (List.length l)) then
          (num_Parse k (List.getD l (Int.toNat (w64 (2 + 0))) (⟨#[]⟩ : ByteArray), 2147483647)).bind fun o_5 =>
            bif o_5.2 then
              bif decide (w64 (2 + w64 (0 + 1)) < Int.ofNat (List.length l)) then
                (num_Parse k (List.getD l (Int.toNat (w64 (2 + w64 (0 + 1)))) (⟨#[]⟩ : ByteArray), 2147483647)).bind fun o_8 =>
                  bif o_8.2 then
                    bif decide (w64 (2 + w64 (w64 (0 + 1) + 1)) < Int.ofNat (List.length l)) then
                      (num_Parse k (List.getD l (Int.toNat (w64 (2 + w64 (w64 (0 + 1) + 1)))) (⟨#[]⟩ : ByteArray), 2147483647)).bind fun o_11 =>
                        bif o_11.2 then
                          bif decide (w64 (2 + w64 (w64 (w64 (0 + 1) + 1) + 1)) < Int.ofNat (List.length l)) then
                            (num_Parse k (List.getD l (Int.toNat (w64 (2 + w64 (w64 (w64 (0 + 1) + 1) + 1)))) (⟨#[]⟩ : ByteArray), 2147483647)).bind fun o_14 =>
                              bif o_14.2 then
                                bif decide (w64 (2 + w64 (w64 (w64 (w64 (0 + 1) + 1) + 1) + 1)) < Int.ofNat (List.length l)) then
                                  (num_Parse k (List.getD l (Int.toNat (w64 (2 + w64 (w64 (w64 (w64 (0 + 1) + 1) + 1) + 1)))) (⟨#[]⟩ : ByteArray), 2147483647)).bind fun o_17 =>
                                    bif o_17.2 then
                                      bif decide (w64 (2 + w64 (w64 (w64 (w64 (w64 (0 + 1) + 1) + 1) + 1) + 1)) < Int.ofNat (List.length l)) then
                                        (num_Parse k (List.getD l (Int.toNat (w64 (2 + w64 (w64 (w64 (w64 (w64 (0 + 1) + 1) + 1) + 1) + 1)))) (⟨#[]⟩ : ByteArray), 2147483647)).bind fun o_20 =>
                                          bif o_20.2 then
                                            (direct_Right k (o_1.1.1, o_1.1.2.1, o_5.1, o_8.1, o_11.1, o_14.1, o_17.1, o_20.1, o_1.1.2.2.2.2.2.2.2.2)).bind fun o_22 =>
                                              bif o_22 then
                                                some (((o_1.1.1, o_1.1.2.1, o_5.1, o_8.1, o_11.1, o_14.1, o_17.1, o_20.1, o_1.1.2.2.2.2.2.2.2.2), 0))
                                              else
                                                some (((0, 0, 0, 0, 0, 0, 0, 0, 0, 0, 0, 0, 0), 1))
                                          else
                                            some (((0, 0, 0, 0, 0, 0, 0, 0, 0, 0, 0, 0, 0), 2))
                                      else
                                        none
                                    else
                                      some (((0, 0, 0, 0, 0, 0, 0, 0, 0, 0, 0, 0, 0), 2))
                                else
                                  none
                              else
                                some (((0, 0, 0, 0, 0, 0, 0, 0, 0, 0, 0, 0, 0), 2))
                          else
                            none
                        else
                          some (((0, 0, 0, 0, 0, 0, 0, 0, 0, 0, 0, 0, 0), 2))
                    else
                      none
                  else
                    some (((0, 0, 0, 0, 0, 0, 0, 0, 0, 0, 0, 0, 0), 2))
              else
                none
            else
              some (((0, 0, 0, 0, 0, 0, 0, 0, 0, 0, 0, 0, 0), 2))
        else
          none
      else
        bif decide (o_1.1.1 = 2) && decide (o_1.1.2.1 = 1) then
          bif decide (w64 (2 + 0) < Int.ofNat (List.length l)) then
            (num_Parse k (List.getD l (Int.toNat (w64 (2 + 0))) (⟨#[]⟩ : ByteArray), 2147483647)).bind fun o_6 =>
              bif o_6.2 then
                (direct_Right k (o_1.1.1, o_1.1.2.1, o_6.1, o_1.1.2.2.2)).bind fun o_8 =>
                  bif o_8 then
                    some (((o_1.1.1, o_1.1.2.1, o_6.1, o_1.1.2.2.2), 0))
                  else
                    some (((0, 0, 0, 0, 0, 0, 0, 0, 0, 0, 0, 0, 0), 1))
              else
                some (((0, 0, 0, 0, 0, 0, 0, 0, 0, 0, 0, 0, 0), 2))
          else
            none
        else
          bif decide (o_1.1.1 = 3) && decide (o_1.1.2.1 = 1) then
            bif decide (w64 (2 + 0) < Int.ofNat (List.length l)) then
              (num_Parse k (List.getD l (Int.toNat (w64 (2 + 0))) (⟨#[]⟩ : ByteArray), 2147483647)).bind fun o_7 =>
                bif o_7.2 then
                  bif decide (w64 (2 + w64 (0 + 1)) < Int.ofNat (List.length l)) then
                    (num_Parse k (List.getD l (Int.toNat (w64 (2 + w64 (0 + 1)))) (⟨#[]⟩ : ByteArray), 2147483647)).bind fun o_10 =>
                      bif o_10.2 then
                        (direct_Right k (o_1.1.1, o_1.1.2.1, o_7.1, o_1.1.2.2.2.1, o_1.1.2.2.2.2.1, o_1.1.2.2.2.2.2.1, o_1.1.2.2.2.2.2.2.1, o_10.1, o_1.1.2.2.2.2.2.2.2.2)).bind fun o_12 =>
                          bif o_12 then
                            some (((o_1.1.1, o_1.1.2.1, o_7.1, o_1.1.2.2.2.1, o_1.1.2.2.2.2.1, o_1.1.2.2.2.2.2.1, o_1.1.2.2.2.2.2.2.1, o_10.1, o_1.1.2.2.2.2.2.2.2.2), 0))
                          else
                            some (((0, 0, 0, 0, 0, 0, 0, 0, 0, 0, 0, 0, 0), 1))
                      else
                        some (((0, 0, 0, 0, 0, 0, 0, 0, 0, 0, 0, 0, 0), 2))
                  else
                    none
                else
                  some (((0, 0, 0, 0, 0, 0, 0, 0, 0, 0, 0, 0, 0), 2))
            else
              none
          else
            bif decide (o_1.1.1 = 1) && decide (o_1.1.2.1 = 2) then
              bif decide (w64 (2 + 0) < Int.ofNat (List.length l)) then
                (num_Parse k (List.getD l (Int.toNat (w64 (2 + 0))) (⟨#[]⟩ : ByteArray), 2147483647)).bind fun o_8 =>
                  bif o_8.2 then
                    bif decide (w64 (2 + w64 (0 + 1)) < Int.ofNat (List.length l)) then
                      (num_Parse k (List.getD l (Int.toNat (w64 (2 + w64 (0 + 1)))) (⟨#[]⟩ : ByteArray), 2147483647)).bind fun o_11 =>
                        bif o_11.2 then
                          bif decide (w64 (2 + w64 (w64 (0 + 1) + 1)) < Int.ofNat (List.length l)) then
                            (num_Parse k (List.getD l (Int.toNat (w64 (2 + w64 (w64 (0 + 1) + 1)))) (⟨#[]⟩ : ByteArray), 2147483647)).bind fun o_14 =>
                              bif o_14.2 then
                                bif decide (w64 (2 + w64 (w64 (w64 (0 + 1) + 1) + 1)) < Int.ofNat (List.length l)) then
                                  (num_Parse k (List.getD l (Int.toNat (w64 (2 + w64 (w64 (w64 (0 + 1) + 1) + 1)))) (⟨#[]⟩ : ByteArray), 2147483647)).bind fun o_17 =>
                                    bif o_17.2 then
                                      bif decide (w64 (2 + w64 (w64 (w64 (w64 (0 + 1) + 1) + 1) + 1)) < Int.ofNat (List.length l)) then
                                        (num_Parse k (List.getD l (Int.toNat (w64 (2 + w64 (w64 (w64 (w64 (0 + 1) + 1) + 1) + 1)))) (⟨#[]⟩ : ByteArray), 2147483647)).bind fun o_20 =>
                                          bif o_20.2 then
                                            (direct_Right k (o_1.1.1, o_1.1.2.1, o_1.1.2.2.1, o_1.1.2.2.2.1, o_1.1.2.2.2.2.1, o_1.1.2.2.2.2.2.1, o_1.1.2.2.2.2.2.2.1, o_1.1.2.2.2.2.2.2.2.1, o_8.1, o_11.1, o_14.1, o_17.1, o_20.1)).bind fun o_22 =>
                                              bif o_22 then
                                                some (((o_1.1.1, o_1.1.2.1, o_1.1.2.2.1, o_1.1.2.2.2.1, o_1.1.2.2.2.2.1, o_1.1.2.2.2.2.2.1, o_1.1.2.2.2.2.2.2.1, o_1.1.2.2.2.2.2.2.2.1, o_8.1, o_11.1, o_14.1, o_17.1, o_20.1), 0))
                                              else
                                                some (((0, 0, 0, 0, 0, 0, 0, 0, 0, 0, 0, 0, 0), 1))
                                          else
                                            some (((0, 0, 0, 0, 0, 0, 0, 0, 0, 0, 0, 0, 0), 2))
                                      else
                                        none
                                    else
                                      some (((0, 0, 0, 0, 0, 0, 0, 0, 0, 0, 0, 0, 0), 2))
                                else
                                  none
                              else
                                some (((0, 0, 0, 0, 0, 0, 0, 0, 0, 0, 0, 0, 0), 2))
                          else
                            none
                        else
                          some (((0, 0, 0, 0, 0, 0, 0, 0, 0, 0, 0, 0, 0), 2))
                    else
                      none
                  else
                    some (((0, 0, 0, 0, 0, 0, 0, 0, 0, 0, 0, 0, 0), 2))
              else
                none
            else
              bif decide (o_1.1.1 = 2) && decide (o_1.1.2.1 = 2) then
                bif decide (w64 (2 + 0) < Int.ofNat (List.length l)) then
                  (num_Parse k (List.getD l (Int.toNat (w64 (2 + 0))) (⟨#[]⟩ : ByteArray), 2147483647)).bind fun o_9 =>
                    bif o_9.2 then
                      bif decide (w64 (2 + w64 (0 + 1)) < Int.ofNat (List.length l)) then
                        (num_Parse k (List.getD l (Int.toNat (w64 (2 + w64 (0 + 1)))) (⟨#[]⟩ : ByteArray), 2147483647)).bind fun o_12 =>
                          bif o_12.2 then
                            bif decide (w64 (2 + w64 (w64 (0 + 1) + 1)) < Int.ofNat (List.length l)) then
                              (num_Parse k (List.getD l (Int.toNat (w64 (2 + w64 (w64 (0 + 1) + 1)))) (⟨#[]⟩ : ByteArray), 2147483647)).bind fun o_15 =>
                                bif o_15.2 then
                                  (direct_Right k (o_1.1.1, o_1.1.2.1, o_1.1.2.2.1, o_1.1.2.2.2.1, o_1.1.2.2.2.2.1, o_1.1.2.2.2.2.2.1, o_1.1.2.2.2.2.2.2.1, o_1.1.2.2.2.2.2.2.2.1, o_9.1, o_12.1, o_15.1, o_1.1.2.2.2.2.2.2.2.2.2.2.2)).bind fun o_17 =>
                                    bif o_17 then
                                      some (((o_1.1.1, o_1.1.2.1, o_1.1.2.2.1, o_1.1.2.2.2.1, o_1.1.2.2.2.2.1, o_1.1.2.2.2.2.2.1, o_1.1.2.2.2.2.2.2.1, o_1.1.2.2.2.2.2.2.2.1, o_9.1, o_12.1, o_15.1, o_1.1.2.2.2.2.2.2.2.2.2.2.2), 0))
                                    else
                                      some (((0, 0, 0, 0, 0, 0, 0, 0, 0, 0, 0, 0, 0), 1))
                                else
                                  some (((0, 0, 0, 0, 0, 0, 0, 0, 0, 0, 0, 0, 0), 2))
                            else
                              none
                          else
                            some (((0, 0, 0, 0, 0, 0, 0, 0, 0, 0, 0, 0, 0), 2))
                      else
                        none
                    else
                      some (((0, 0, 0, 0, 0, 0, 0, 0, 0, 0, 0, 0, 0), 2))
                else
                  none
              else
                bif decide (o_1.1.1 = 3) && decide (o_1.1.2.1 = 2) then
                  bif decide (w64 (2 + 0) < Int.ofNat (List.length l)) then
                    (num_Parse k (List.getD l (Int.toNat (w64 (2 + 0))) (⟨#[]⟩ : ByteArray), 2147483647)).bind fun o_10 =>
                      bif o_10.2 then
                        bif decide (w64 (2 + w64 (0 + 1)) < Int.ofNat (List.length l)) then
                          (num_Parse k (List.getD l (Int.toNat (w64 (2 + w64 (0 + 1)))) (⟨#[]⟩ : ByteArray), 2147483647)).bind fun o_13 =>
                            bif o_13.2 then
                              bif decide (w64 (2 + w64 (w64 (0 + 1) + 1)) < Int.ofNat (List.length l)) then
                                (num_Parse k (List.getD l (Int.toNat (w64 (2 + w64 (w64 (0 + 1) + 1)))) (⟨#[]⟩ : ByteArray), 2147483647)).bind fun o_16 =>
                                  bif o_16.2 then
                                    bif decide (w64 (2 + w64 (w64 (w64 (0 + 1) + 1) + 1)) < Int.ofNat (List.length l)) then
                                      (num_Parse k (List.getD l (Int.toNat (w64 (2 + w64 (w64 (w64 (0 + 1) + 1) + 1)))) (⟨#[]⟩ : ByteArray), 2147483647)).bind fun o_19 =>
                                        bif o_19.2 then
                                          (direct_Right k (o_1.1.1, o_1.1.2.1, o_1.1.2.2.1, o_1.1.2.2.2.1, o_1.1.2.2.2.2.1, o_1.1.2.2.2.2.2.1, o_1.1.2.2.2.2.2.2.1, o_1.1.2.2.2.2.2.2.2.1, o_10.1, o_13.1, o_16.1, o_1.1.2.2.2.2.2.2.2.2.2.2.2.1, o_19.1)).bind fun o_21 =>
                                            bif o_21 then
                                              some (((o_1.1.1, o_1.1.2.1, o_1.1.2.2.1, o_1.1.2.2.2.1, o_1.1.2.2.2.2.1, o_1.1.2.2.2.2.2.1, o_1.1.2.2.2.2.2.2.1, o_1.1.2.2.2.2.2.2.2.1, o_10.1, o_13.1, o_16.1, o_1.1.2.2.2.2.2.2.2.2.2.2.2.1, o_19.1), 0))
                                            else
                                              some (((0, 0, 0, 0, 0, 0, 0, 0, 0, 0, 0, 0, 0), 1))
                                        else
                                          some (((0, 0, 0, 0, 0, 0, 0, 0, 0, 0, 0, 0, 0), 2))
                                    else
                                      none
                                  else
                                    some (((0, 0, 0, 0, 0, 0, 0, 0, 0, 0, 0, 0, 0), 2))
                              else
                                none
                            else
                              some (((0, 0, 0, 0, 0, 0, 0, 0, 0, 0, 0, 0, 0), 2))
                        else
                          none
                      else
                        some (((0, 0, 0, 0, 0, 0, 0, 0, 0, 0, 0, 0, 0), 2))
                  else
                    none
                else
                  none
    else
      some (((0, 0, 0, 0, 0, 0, 0, 0, 0, 0, 0, 0, 0), 2))
noncomputable def direct_Parse_X : Cx Tryd.prog [.agg lGDirective, .one (.sc (.int .i64))] := ⟨fun k => ⟨[direct_Right_e k, direct_find_e k, num_Parse_e k], [], [hkMapC fC, hkMap fT, hkClo [fClo1, fClo2, fClo3, fClo4, fClo5, fClo6], hkRow Tryd.prog, hkStr Tryd.prog]⟩, Tryd.f16.ntmps, Tryd.f16.results, [none]⟩
theorem direct_Parse_eq (k : Nat) (x : List ByteArray) : direct_Parse k x = runF direct_Parse_X k direct_Parse_c [.one (.row 9 [.str])] x := by kernel_rfl
noncomputable def direct_Parse_e (k : Nat) : Ent Tryd.prog := ⟨16, [.one (.row 9 [.str])], [.agg lGDirective, .one (.sc (.int .i64))], direct_Parse k, calls_of (X := direct_Parse_X) (k := k) (c := direct_Parse_c) Tryd.func16 (by kernel_rfl) (by kernel_rfl) (by kernel_rfl) (LoopEqs.all (show LoopEqs direct_Parse_X direct_Parse_c direct_Parse_X.L 0 from trivial)) (fun x => direct_Parse_eq k x), fun _ _ => by kernel_rfl⟩
/-! strings.Join (by hand) -/
def strings_Join (_k : Nat) : (List ByteArray) × ByteArray → Option ByteArray := joinF
noncomputable def strings_Join_e (k : Nat) : Ent Tryd.prog := ⟨85, [.one (.row 9 [.str]), .one (.sc .str)], [.one (.sc .str)], strings_Join k, ok_join Tryd.strings_Join_none Tryd.strings_Join, fun _ _ => by kernel_rfl⟩
/-! felucca/words.Line -/
noncomputable def words_Line_c : Code := Tryd.f63.body.getD .skip
def words_Line (k : Nat) : (List ByteArray) → Option (ByteArray) := fun (l) =>
  (strings_Join k (l, (⟨#[32]⟩ : ByteArray))).bind fun o_1 =>
    bif decide (ByteArray.size o_1 + ByteArray.size (⟨#[10]⟩ : ByteArray) ≤ 9223372036854775807) then
      some (o_1 ++ (⟨#[10]⟩ : ByteArray))
    else
      none
noncomputable def words_Line_X : Cx Tryd.prog [.one (.sc (.str))] := ⟨fun k => ⟨[strings_Join_e k], [], [hkStr Tryd.prog]⟩, Tryd.f63.ntmps, Tryd.f63.results, []⟩
theorem words_Line_eq (k : Nat) (x : List ByteArray) : words_Line k x = runF words_Line_X k words_Line_c [.one (.row 9 [.str])] x := by kernel_rfl
noncomputable def words_Line_e (k : Nat) : Ent Tryd.prog := ⟨63, [.one (.row 9 [.str])], [.one (.sc (.str))], words_Line k, calls_of (X := words_Line_X) (k := k) (c := words_Line_c) Tryd.func63 (by kernel_rfl) (by kernel_rfl) (by kernel_rfl) (LoopEqs.all (show LoopEqs words_Line_X words_Line_c words_Line_X.L 0 from trivial)) (fun x => words_Line_eq k x), fun _ _ => by kernel_rfl⟩
/-! felucca/text.Print -/
noncomputable def text_Print_c : Code := Tryd.f30.body.getD .skip
def text_Print_L0 : Nat → (ByteArray × (List GDirective) × Int × Int) → Option ((ByteArray) ⊕ (ByteArray × Bool))
  | 0, _ => none
  | k + 1, (b, t9, t10, t11) =>
  bif decide (t11 < t10) then
    bif decide (0 ≤ t11) then
      bif decide (t11 < Int.ofNat (List.length t9)) then
        (direct_Words k (List.getD t9 (Int.toNat t11) (0, 0, 0, 0, 0, 0, 0, 0, 0, 0, 0, 0, 0))).bind fun o_4 =>
          bif o_4.2 then
            (words_Line k o_4.1).bind fun o_6 =>
              bif decide (ByteArray.size b + ByteArray.size o_6 ≤ 140737488355328) then
                text_Print_L0 k (b ++ o_6, t9, t10, w64 (t11 + 1))
              else
                none
          else
            some (Sum.inr ((⟨#[]⟩ : ByteArray), false))
      else
        none
    else
      none
  else
    some (Sum.inl b)
def text_Print (k : Nat) : (List GDirective) → Option (ByteArray × Bool) := fun (l) =>
  (text_Print_L0 k ((⟨#[]⟩ : ByteArray), l, Int.ofNat (List.length l), 0)).bind fun o_1 =>
    match o_1 with
    | .inl o_2 =>
      some ((o_2, true))
    | .inr o_2 =>
      some (o_2)
noncomputable def text_Print_X : Cx Tryd.prog [.one (.sc (.str)), .one (.sc (.bool))] := ⟨fun k => ⟨[direct_Words_e k, words_Line_e k], [], [hkBld, hkStr Tryd.prog]⟩, Tryd.f30.ntmps, Tryd.f30.results, [some ⟨0, [(4, .obj 0), (9, .one (.ro kGDirective)), (10, .one (.sc (.int .i64))), (11, .one (.sc (.int .i64)))], [(4, .obj 0)], text_Print_L0⟩]⟩
theorem text_Print_L0_eq (k : Nat) (x : ByteArray × (List GDirective) × Int × Int) : text_Print_L0 (k + 1) x = roundF text_Print_X k ⟨0, [(4, .obj 0), (9, .one (.ro kGDirective)), (10, .one (.sc (.int .i64))), (11, .one (.sc (.int .i64)))], [(4, .obj 0)], text_Print_L0⟩ 0 (lp text_Print_c 0) x := by kernel_rfl
theorem text_Print_eq (k : Nat) (x : List GDirective) : text_Print k x = runF text_Print_X k text_Print_c [.one (.row 27 kGDirective)] x := by kernel_rfl
noncomputable def text_Print_e (k : Nat) : Ent Tryd.prog := ⟨30, [.one (.row 27 kGDirective)], [.one (.sc (.str)), .one (.sc (.bool))], text_Print k, calls_of (X := text_Print_X) (k := k) (c := text_Print_c) Tryd.func30 (by kernel_rfl) (by kernel_rfl) (by kernel_rfl) (LoopEqs.all (show LoopEqs text_Print_X text_Print_c text_Print_X.L 0 from ⟨⟨fun _ => rfl, fun k x => text_Print_L0_eq k x⟩, trivial⟩)) (fun x => text_Print_eq k x), fun _ _ => by kernel_rfl⟩
/-! felucca/text.rows -/
noncomputable def text_rows_c : Code := Tryd.f65.body.getD .skip
def text_rows_L0 : Nat → ((List (Int × List ByteArray)) × (List ByteArray) × Int × Int) → Option ((List (Int × List ByteArray)) ⊕ (List (Int × List ByteArray)))
  | 0, _ => none
  | k + 1, (out2, t7, t8, t9) =>
  bif decide (t9 < t8) then
    bif decide (0 ≤ t9) then
      bif decide (t9 < Int.ofNat (List.length t7)) then
        (words_Words k (List.getD t7 (Int.toNat t9) (⟨#[]⟩ : ByteArray))).bind fun o_4 =>
          bif decide (0 < Int.ofNat (List.length o_4)) then
            bif decide ((List.length out2 + List.length [(w64 (t9 + 1), o_4)]) * 32 ≤ 140737488355328) then
              text_rows_L0 k (out2 ++ [(w64 (t9 + 1), o_4)], t7, t8, w64 (t9 + 1))
            else
              none
          else
            text_rows_L0 k (out2, t7, t8, w64 (t9 + 1))
      else
        none
    else
      none
  else
    some (Sum.inl out2)
def text_rows (k : Nat) : ByteArray → Option (List (Int × List ByteArray)) := fun (s) =>
  (words_Lines k s).bind fun o_1 =>
    (text_rows_L0 k ([], o_1, Int.ofNat (List.length o_1), 0)).bind fun o_2 =>
      match o_2 with
      | .inl o_3 =>
        some (o_3)
      | .inr o_3 =>
        some (o_3)
noncomputable def text_rows_X : Cx Tryd.prog [.one (.row 109 [.int .i64, .row [.str]])] := ⟨fun k => ⟨[words_Lines_e k, words_Words_e k], [], [hkStr Tryd.prog]⟩, Tryd.f65.ntmps, Tryd.f65.results, [some ⟨0, [(2, .one (.own 109 [.int .i64, .row [.str]])), (7, .one (.own 9 [.str])), (8, .one (.sc (.int .i64))), (9, .one (.sc (.int .i64)))], [(2, .one (.own 109 [.int .i64, .row [.str]]))], text_rows_L0⟩]⟩
theorem text_rows_L0_eq (k : Nat) (x : (List (Int × List ByteArray)) × (List ByteArray) × Int × Int) : text_rows_L0 (k + 1) x = roundF text_rows_X k ⟨0, [(2, .one (.own 109 [.int .i64, .row [.str]])), (7, .one (.own 9 [.str])), (8, .one (.sc (.int .i64))), (9, .one (.sc (.int .i64)))], [(2, .one (.own 109 [.int .i64, .row [.str]]))], text_rows_L0⟩ 0 (lp text_rows_c 0) x := by kernel_rfl
theorem text_rows_eq (k : Nat) (x : ByteArray) : text_rows k x = runF text_rows_X k text_rows_c [.one (.sc (.str))] x := by kernel_rfl
noncomputable def text_rows_e (k : Nat) : Ent Tryd.prog := ⟨65, [.one (.sc (.str))], [.one (.row 109 [.int .i64, .row [.str]])], text_rows k, calls_of (X := text_rows_X) (k := k) (c := text_rows_c) Tryd.func65 (by kernel_rfl) (by kernel_rfl) (by kernel_rfl) (LoopEqs.all (show LoopEqs text_rows_X text_rows_c text_rows_X.L 0 from ⟨⟨fun _ => rfl, fun k x => text_rows_L0_eq k x⟩, trivial⟩)) (fun x => text_rows_eq k x), fun _ _ => by kernel_rfl⟩
/-! felucca/text.Parse -/
noncomputable def text_Parse_c : Code := Tryd.f32.body.getD .skip
def text_Parse_L0 : Nat → ((Int × Int) × (List GDirective) × (List (Int × List ByteArray)) × Int × Int) → Option (((Int × Int) × (List GDirective)) ⊕ ((List GDirective) × (Int × Int)))
  | 0, _ => none
  | k + 1, (t3, out4, t10, t11, t12) =>
  bif decide (t12 < t11) then
    bif decide (0 ≤ t12) then
      bif decide (t12 < Int.ofNat (List.length t10)) then
        (direct_Parse k (List.getD t10 (Int.toNat t12) (0, [])).2).bind fun o_4 =>
          bif !decide (o_4.2 = 0) then
            some (Sum.inr ([], (List.getD t10 (Int.toNat t12) (0, [])).1, o_4.2))
          else
            bif decide ((List.length out4 + List.length [o_4.1]) * 104 ≤ 140737488355328) then
              text_Parse_L0 k (t3, out4 ++ [o_4.1], t10, t11, w64 (t12 + 1))
            else
              none
      else
        none
    else
      none
  else
    some (Sum.inl (t3, out4))
def text_Parse (k : Nat) : ByteArray → Option ((List GDirective) × (Int × Int)) := fun (s) =>
  (text_rows k s).bind fun o_1 =>
    (text_Parse_L0 k ((0, 0), [], o_1, Int.ofNat (List.length o_1), 0)).bind fun o_2 =>
      match o_2 with
      | .inl o_3 =>
        some ((o_3.2, 0, 0))
      | .inr o_3 =>
        some (o_3)
noncomputable def text_Parse_X : Cx Tryd.prog [.one (.row 27 kGDirective), .agg [.sc (.int .i64), .sc (.int .i64)]] := ⟨fun k => ⟨[direct_Parse_e k, text_rows_e k], [], [hkStr Tryd.prog]⟩, Tryd.f32.ntmps, Tryd.f32.results, [some ⟨0, [(3, .box 58 [.sc (.int .i64), .sc (.int .i64)]), (4, .one (.own 27 kGDirective)), (10, .one (.own 109 [.int .i64, .row [.str]])), (11, .one (.sc (.int .i64))), (12, .one (.sc (.int .i64)))], [(3, .box 58 [.sc (.int .i64), .sc (.int .i64)]), (4, .one (.own 27 kGDirective))], text_Parse_L0⟩]⟩
theorem text_Parse_L0_eq (k : Nat) (x : (Int × Int) × (List GDirective) × (List (Int × List ByteArray)) × Int × Int) : text_Parse_L0 (k + 1) x = roundF text_Parse_X k ⟨0, [(3, .box 58 [.sc (.int .i64), .sc (.int .i64)]), (4, .one (.own 27 kGDirective)), (10, .one (.own 109 [.int .i64, .row [.str]])), (11, .one (.sc (.int .i64))), (12, .one (.sc (.int .i64)))], [(3, .box 58 [.sc (.int .i64), .sc (.int .i64)]), (4, .one (.own 27 kGDirective))], text_Parse_L0⟩ 0 (lp text_Parse_c 0) x := by kernel_rfl
theorem text_Parse_eq (k : Nat) (x : ByteArray) : text_Parse k x = runF text_Parse_X k text_Parse_c [.one (.sc (.str))] x := by kernel_rfl
noncomputable def text_Parse_e (k : Nat) : Ent Tryd.prog := ⟨32, [.one (.sc (.str))], [.one (.row 27 kGDirective), .agg [.sc (.int .i64), .sc (.int .i64)]], text_Parse k, calls_of (X := text_Parse_X) (k := k) (c := text_Parse_c) Tryd.func32 (by kernel_rfl) (by kernel_rfl) (by kernel_rfl) (LoopEqs.all (show LoopEqs text_Parse_X text_Parse_c text_Parse_X.L 0 from ⟨⟨fun _ => rfl, fun k x => text_Parse_L0_eq k x⟩, trivial⟩)) (fun x => text_Parse_eq k x), fun _ _ => by kernel_rfl⟩
/-! felucca/text.Lines -/
noncomputable def text_Lines_c : Code := Tryd.f37.body.getD .skip
def text_Lines_L0 : Nat → ((List Int) × (List (Int × List ByteArray)) × Int × Int) → Option ((List Int) ⊕ (List Int))
  | 0, _ => none
  | k + 1, (out2, t6, t7, t8) =>
  bif decide (t8 < t7) then
    bif decide (0 ≤ t8) then
      bif decide (t8 < Int.ofNat (List.length t6)) then
        bif decide ((List.length out2 + List.length [(List.getD t6 (Int.toNat t8) (0, [])).1]) * 8 ≤ 140737488355328) then
          text_Lines_L0 k (out2 ++ [(List.getD t6 (Int.toNat t8) (0, [])).1], t6, t7, w64 (t8 + 1))
        else
          none
      else
        none
    else
      none
  else
    some (Sum.inl out2)
def text_Lines (k : Nat) : ByteArray → Option (List Int) := fun (s) =>
  (text_rows k s).bind fun o_1 =>
    (text_Lines_L0 k ([], o_1, Int.ofNat (List.length o_1), 0)).bind fun o_2 =>
      match o_2 with
      | .inl o_3 =>
        some (o_3)
      | .inr o_3 =>
        some (o_3)
noncomputable def text_Lines_X : Cx Tryd.prog [.one (.row 3 [.int .i64])] := ⟨fun k => ⟨[text_rows_e k], [], [hkStr Tryd.prog]⟩, Tryd.f37.ntmps, Tryd.f37.results, [some ⟨0, [(2, .one (.own 3 [.int .i64])), (6, .one (.own 109 [.int .i64, .row [.str]])), (7, .one (.sc (.int .i64))), (8, .one (.sc (.int .i64)))], [(2, .one (.own 3 [.int .i64]))], text_Lines_L0⟩]⟩
theorem text_Lines_L0_eq (k : Nat) (x : (List Int) × (List (Int × List ByteArray)) × Int × Int) : text_Lines_L0 (k + 1) x = roundF text_Lines_X k ⟨0, [(2, .one (.own 3 [.int .i64])), (6, .one (.own 109 [.int .i64, .row [.str]])), (7, .one (.sc (.int .i64))), (8, .one (.sc (.int .i64)))], [(2, .one (.own 3 [.int .i64]))], text_Lines_L0⟩ 0 (lp text_Lines_c 0) x := by kernel_rfl
theorem text_Lines_eq (k : Nat) (x : ByteArray) : text_Lines k x = runF text_Lines_X k text_Lines_c [.one (.sc (.str))] x := by kernel_rfl
noncomputable def text_Lines_e (k : Nat) : Ent Tryd.prog := ⟨37, [.one (.sc (.str))], [.one (.row 3 [.int .i64])], text_Lines k, calls_of (X := text_Lines_X) (k := k) (c := text_Lines_c) Tryd.func37 (by kernel_rfl) (by kernel_rfl) (by kernel_rfl) (LoopEqs.all (show LoopEqs text_Lines_X text_Lines_c text_Lines_X.L 0 from ⟨⟨fun _ => rfl, fun k x => text_Lines_L0_eq k x⟩, trivial⟩)) (fun x => text_Lines_eq k x), fun _ _ => by kernel_rfl⟩
/-! felucca/feluccaref03.Node -/
noncomputable def feluccaref03_Node_c : Code := Tryd.f94.body.getD .skip
def feluccaref03_Node (k : Nat) : Int → Option (Bool) := fun (n) =>
  bif decide (1 ≤ n) then
    bif decide (n ≤ 255) then
      some (true)
    else
      some (false)
  else
    some (false)
noncomputable def feluccaref03_Node_X : Cx Tryd.prog [.one (.sc (.bool))] := ⟨fun k => ⟨[], [], [hkStr Tryd.prog]⟩, Tryd.f94.ntmps, Tryd.f94.results, []⟩
theorem feluccaref03_Node_eq (k : Nat) (x : Int) : feluccaref03_Node k x = runF feluccaref03_Node_X k feluccaref03_Node_c [.one (.sc (.int .i64))] x := by kernel_rfl
noncomputable def feluccaref03_Node_e (k : Nat) : Ent Tryd.prog := ⟨94, [.one (.sc (.int .i64))], [.one (.sc (.bool))], feluccaref03_Node k, calls_of (X := feluccaref03_Node_X) (k := k) (c := feluccaref03_Node_c) Tryd.func94 (by kernel_rfl) (by kernel_rfl) (by kernel_rfl) (LoopEqs.all (show LoopEqs feluccaref03_Node_X feluccaref03_Node_c feluccaref03_Node_X.L 0 from trivial)) (fun x => feluccaref03_Node_eq k x), fun _ _ => by kernel_rfl⟩
/-! felucca/feluccaref03.pair -/
noncomputable def feluccaref03_pair_c : Code := Tryd.f82.body.getD .skip
def feluccaref03_pair (k : Nat) : (Int × Int × Int × Int) → Option (Bool) := fun (from0, to1, start, end3) =>
  (feluccaref03_Node k from0).bind fun o_1 =>
    bif o_1 then
      (feluccaref03_Node k to1).bind fun o_3 =>
        bif o_3 then
          bif !decide (from0 = to1) then
            bif decide (0 ≤ start) then
              bif decide (start < end3) then
                bif decide (end3 ≤ 2147483647) then
                  some (true)
                else
                  some (false)
              else
                some (false)
            else
              some (false)
          else
            some (false)
        else
          some (false)
    else
      (feluccaref03_Node k to1).bind fun o_3 =>
        bif o_3 then
          some (false)
        else
          some (false)
noncomputable def feluccaref03_pair_X : Cx Tryd.prog [.one (.sc (.bool))] := ⟨fun k => ⟨[feluccaref03_Node_e k], [], [hkStr Tryd.prog]⟩, Tryd.f82.ntmps, Tryd.f82.results, []⟩
theorem feluccaref03_pair_eq (k : Nat) (x : Int × Int × Int × Int) : feluccaref03_pair k x = runF feluccaref03_pair_X k feluccaref03_pair_c [.one (.sc (.int .i64)), .one (.sc (.int .i64)), .one (.sc (.int .i64)), .one (.sc (.int .i64))] x := by kernel_rfl
noncomputable def feluccaref03_pair_e (k : Nat) : Ent Tryd.prog := ⟨82, [.one (.sc (.int .i64)), .one (.sc (.int .i64)), .one (.sc (.int .i64)), .one (.sc (.int .i64))], [.one (.sc (.bool))], feluccaref03_pair k, calls_of (X := feluccaref03_pair_X) (k := k) (c := feluccaref03_pair_c) Tryd.func82 (by kernel_rfl) (by kernel_rfl) (by kernel_rfl) (LoopEqs.all (show LoopEqs feluccaref03_pair_X feluccaref03_pair_c feluccaref03_pair_X.L 0 from trivial)) (fun x => feluccaref03_pair_eq k x), fun _ _ => by kernel_rfl⟩
/-! felucca/feluccaref03.Contact -/
noncomputable def feluccaref03_Contact_c : Code := Tryd.f52.body.getD .skip
def feluccaref03_Contact (k : Nat) : GContact → Option (Bool) := fun (c0) =>
  (feluccaref03_pair k (c0.2.1, c0.2.2.1, c0.2.2.2.1, c0.2.2.2.2.1)).bind fun o_1 =>
    bif o_1 then
      bif decide (1 ≤ c0.1) then
        bif decide (c0.1 ≤ 1048576) then
          bif decide (1 ≤ c0.2.2.2.2.2) then
            bif decide (c0.2.2.2.2.2 ≤ 2147483647) then
              some (true)
            else
              some (false)
          else
            some (false)
        else
          some (false)
      else
        some (false)
    else
      some (false)
noncomputable def feluccaref03_Contact_X : Cx Tryd.prog [.one (.sc (.bool))] := ⟨fun k => ⟨[feluccaref03_pair_e k], [], [hkStr Tryd.prog]⟩, Tryd.f52.ntmps, Tryd.f52.results, []⟩
theorem feluccaref03_Contact_eq (k : Nat) (x : GContact) : feluccaref03_Contact k x = runF feluccaref03_Contact_X k feluccaref03_Contact_c [.agg lGContact] x := by kernel_rfl
noncomputable def feluccaref03_Contact_e (k : Nat) : Ent Tryd.prog := ⟨52, [.agg lGContact], [.one (.sc (.bool))], feluccaref03_Contact k, calls_of (X := feluccaref03_Contact_X) (k := k) (c := feluccaref03_Contact_c) Tryd.func52 (by kernel_rfl) (by kernel_rfl) (by kernel_rfl) (LoopEqs.all (show LoopEqs feluccaref03_Contact_X feluccaref03_Contact_c feluccaref03_Contact_X.L 0 from trivial)) (fun x => feluccaref03_Contact_eq k x), fun _ _ => by kernel_rfl⟩
/-! felucca/feluccaref03.Range -/
noncomputable def feluccaref03_Range_c : Code := Tryd.f55.body.getD .skip
def feluccaref03_Range (k : Nat) : GRange → Option (Bool) := fun (r) =>
  (feluccaref03_pair k (r.1, r.2.1, r.2.2.1, r.2.2.2.1)).bind fun o_1 =>
    bif o_1 then
      bif decide (0 ≤ r.2.2.2.2) then
        bif decide (r.2.2.2.2 ≤ 2147483647) then
          some (true)
        else
          some (false)
      else
        some (false)
    else
      some (false)
noncomputable def feluccaref03_Range_X : Cx Tryd.prog [.one (.sc (.bool))] := ⟨fun k => ⟨[feluccaref03_pair_e k], [], [hkStr Tryd.prog]⟩, Tryd.f55.ntmps, Tryd.f55.results, []⟩
theorem feluccaref03_Range_eq (k : Nat) (x : GRange) : feluccaref03_Range k x = runF feluccaref03_Range_X k feluccaref03_Range_c [.agg lGRange] x := by kernel_rfl
noncomputable def feluccaref03_Range_e (k : Nat) : Ent Tryd.prog := ⟨55, [.agg lGRange], [.one (.sc (.bool))], feluccaref03_Range k, calls_of (X := feluccaref03_Range_X) (k := k) (c := feluccaref03_Range_c) Tryd.func55 (by kernel_rfl) (by kernel_rfl) (by kernel_rfl) (LoopEqs.all (show LoopEqs feluccaref03_Range_X feluccaref03_Range_c feluccaref03_Range_X.L 0 from trivial)) (fun x => feluccaref03_Range_eq k x), fun _ _ => by kernel_rfl⟩
/-! felucca/feluccaref04.noRange -/
noncomputable def feluccaref04_noRange_c : Code := Tryd.f51.body.getD .skip
def feluccaref04_noRange (k : Nat) : GRange → Option (Bool) := fun (r) =>
  bif r.1 == 0 && (r.2.1 == 0 && (r.2.2.1 == 0 && (r.2.2.2.1 == 0 && r.2.2.2.2 == 0))) then
    some (true)
  else
    some (false)
noncomputable def feluccaref04_noRange_X : Cx Tryd.prog [.one (.sc (.bool))] := ⟨fun k => ⟨[], [], [hkStr Tryd.prog]⟩, Tryd.f51.ntmps, Tryd.f51.results, []⟩
theorem feluccaref04_noRange_eq (k : Nat) (x : GRange) : feluccaref04_noRange k x = runF feluccaref04_noRange_X k feluccaref04_noRange_c [.agg lGRange] x := by kernel_rfl
noncomputable def feluccaref04_noRange_e (k : Nat) : Ent Tryd.prog := ⟨51, [.agg lGRange], [.one (.sc (.bool))], feluccaref04_noRange k, calls_of (X := feluccaref04_noRange_X) (k := k) (c := feluccaref04_noRange_c) Tryd.func51 (by kernel_rfl) (by kernel_rfl) (by kernel_rfl) (LoopEqs.all (show LoopEqs feluccaref04_noRange_X feluccaref04_noRange_c feluccaref04_noRange_X.L 0 from trivial)) (fun x => feluccaref04_noRange_eq k x), fun _ _ => by kernel_rfl⟩
/-! felucca/feluccaref04.whole -/
noncomputable def feluccaref04_whole_c : Code := Tryd.f53.body.getD .skip
def feluccaref04_whole (k : Nat) : (Int × Int) → Option (GContact) := fun (id, rate) =>
  some ((id, 1, 2, 0, 1, rate))
noncomputable def feluccaref04_whole_X : Cx Tryd.prog [.agg lGContact] := ⟨fun k => ⟨[], [], [hkStr Tryd.prog]⟩, Tryd.f53.ntmps, Tryd.f53.results, []⟩
theorem feluccaref04_whole_eq (k : Nat) (x : Int × Int) : feluccaref04_whole k x = runF feluccaref04_whole_X k feluccaref04_whole_c [.one (.sc (.int .i64)), .one (.sc (.int .i64))] x := by kernel_rfl
noncomputable def feluccaref04_whole_e (k : Nat) : Ent Tryd.prog := ⟨53, [.one (.sc (.int .i64)), .one (.sc (.int .i64))], [.agg lGContact], feluccaref04_whole k, calls_of (X := feluccaref04_whole_X) (k := k) (c := feluccaref04_whole_c) Tryd.func53 (by kernel_rfl) (by kernel_rfl) (by kernel_rfl) (LoopEqs.all (show LoopEqs feluccaref04_whole_X feluccaref04_whole_c feluccaref04_whole_X.L 0 from trivial)) (fun x => feluccaref04_whole_eq k x), fun _ _ => by kernel_rfl⟩
/-! felucca/feluccaref04.noContact -/
noncomputable def feluccaref04_noContact_c : Code := Tryd.f54.body.getD .skip
def feluccaref04_noContact (k : Nat) : GContact → Option (Bool) := fun (c0) =>
  bif c0.1 == 0 && (c0.2.1 == 0 && (c0.2.2.1 == 0 && (c0.2.2.2.1 == 0 && (c0.2.2.2.2.1 == 0 && c0.2.2.2.2.2 == 0)))) then
    some (true)
  else
    some (false)
noncomputable def feluccaref04_noContact_X : Cx Tryd.prog [.one (.sc (.bool))] := ⟨fun k => ⟨[], [], [hkStr Tryd.prog]⟩, Tryd.f54.ntmps, Tryd.f54.results, []⟩
theorem feluccaref04_noContact_eq (k : Nat) (x : GContact) : feluccaref04_noContact k x = runF feluccaref04_noContact_X k feluccaref04_noContact_c [.agg lGContact] x := by kernel_rfl
noncomputable def feluccaref04_noContact_e (k : Nat) : Ent Tryd.prog := ⟨54, [.agg lGContact], [.one (.sc (.bool))], feluccaref04_noContact k, calls_of (X := feluccaref04_noContact_X) (k := k) (c := feluccaref04_noContact_c) Tryd.func54 (by kernel_rfl) (by kernel_rfl) (by kernel_rfl) (LoopEqs.all (show LoopEqs feluccaref04_noContact_X feluccaref04_noContact_c feluccaref04_noContact_X.L 0 from trivial)) (fun x => feluccaref04_noContact_eq k x), fun _ _ => by kernel_rfl⟩
/-! felucca/feluccaref04.Right -/
noncomputable def feluccaref04_Right_c : Code := Tryd.f19.body.getD .skip
def feluccaref04_Right (k : Nat) : GDirective → Option (Bool) := fun (d) =>
  bif decide (d.2.1 = 1) then
    (feluccaref04_noRange k d.2.2.2.2.2.2.2.2).bind fun o_2 =>
      bif o_2 then
        bif decide (d.1 = 1) then
          (feluccaref03_Contact k (d.2.2.1, d.2.2.2.1, d.2.2.2.2.1, d.2.2.2.2.2.1, d.2.2.2.2.2.2.1, d.2.2.2.2.2.2.2.1)).bind fun o_5 =>
            bif o_5 then
              some (true)
            else
              some (false)
        else
          bif decide (d.1 = 2) then
            bif d.2.2.1 == d.2.2.1 && (d.2.2.2.1 == 0 && (d.2.2.2.2.1 == 0 && (d.2.2.2.2.2.1 == 0 && (d.2.2.2.2.2.2.1 == 0 && d.2.2.2.2.2.2.2.1 == 0)))) then
              (feluccaref04_whole k (d.2.2.1, 1)).bind fun o_7 =>
                (feluccaref03_Contact k o_7).bind fun o_8 =>
                  bif o_8 then
                    some (true)
                  else
                    some (false)
            else
              some (false)
          else
            bif decide (d.1 = 3) then
              bif d.2.2.1 == d.2.2.1 && (d.2.2.2.1 == 0 && (d.2.2.2.2.1 == 0 && (d.2.2.2.2.2.1 == 0 && (d.2.2.2.2.2.2.1 == 0 && d.2.2.2.2.2.2.2.1 == d.2.2.2.2.2.2.2.1)))) then
                (feluccaref04_whole k (d.2.2.1, d.2.2.2.2.2.2.2.1)).bind fun o_8 =>
                  (feluccaref03_Contact k o_8).bind fun o_9 =>
                    bif o_9 then
                      some (true)
                    else
                      some (false)
              else
                some (false)
            else
              bif decide (d.2.1 = 2) then
                (feluccaref04_noContact k (d.2.2.1, d.2.2.2.1, d.2.2.2.2.1, d.2.2.2.2.2.1, d.2.2.2.2.2.2.1, d.2.2.2.2.2.2.2.1)).bind fun o_8 =>
                  bif o_8 then
                    bif decide (d.1 = 1) then
                      (feluccaref03_Range k d.2.2.2.2.2.2.2.2).bind fun o_11 =>
                        bif o_11 then
                          some (true)
                        else
                          some (false)
                    else
                      bif decide (d.1 = 2) then
                        bif d.2.2.2.2.2.2.2.2.1 == d.2.2.2.2.2.2.2.2.1 && (d.2.2.2.2.2.2.2.2.2.1 == d.2.2.2.2.2.2.2.2.2.1 && (d.2.2.2.2.2.2.2.2.2.2.1 == d.2.2.2.2.2.2.2.2.2.2.1 && (d.2.2.2.2.2.2.2.2.2.2.2.1 == 0 && d.2.2.2.2.2.2.2.2.2.2.2.2 == 0))) then
                          (feluccaref03_Range k (d.2.2.2.2.2.2.2.2.1, d.2.2.2.2.2.2.2.2.2.1, d.2.2.2.2.2.2.2.2.2.2.1, 2147483647, d.2.2.2.2.2.2.2.2.2.2.2.2)).bind fun o_13 =>
                            bif o_13 then
                              some (true)
                            else
                              some (false)
                        else
                          some (false)
                      else
                        bif decide (d.1 = 3) then
                          bif decide (d.2.2.2.2.2.2.2.2.2.2.2.1 = 0) then
                            (feluccaref03_Range k (d.2.2.2.2.2.2.2.2.1, d.2.2.2.2.2.2.2.2.2.1, d.2.2.2.2.2.2.2.2.2.2.1, 2147483647, d.2.2.2.2.2.2.2.2.2.2.2.2)).bind fun o_14 =>
                              bif o_14 then
                                some (true)
                              else
                                some (false)
                          else
                            some (false)
                        else
                          some (false)
                  else
                    some (false)
              else
                some (false)
      else
        bif decide (d.2.1 = 2) then
          (feluccaref04_noContact k (d.2.2.1, d.2.2.2.1, d.2.2.2.2.1, d.2.2.2.2.2.1, d.2.2.2.2.2.2.1, d.2.2.2.2.2.2.2.1)).bind fun o_5 =>
            bif o_5 then
              bif decide (d.1 = 1) then
                (feluccaref03_Range k d.2.2.2.2.2.2.2.2).bind fun o_8 =>
                  bif o_8 then
                    some (true)
                  else
                    some (false)
              else
                bif decide (d.1 = 2) then
                  bif d.2.2.2.2.2.2.2.2.1 == d.2.2.2.2.2.2.2.2.1 && (d.2.2.2.2.2.2.2.2.2.1 == d.2.2.2.2.2.2.2.2.2.1 && (d.2.2.2.2.2.2.2.2.2.2.1 == d.2.2.2.2.2.2.2.2.2.2.1 && (d.2.2.2.2.2.2.2.2.2.2.2.1 == 0 && d.2.2.2.2.2.2.2.2.2.2.2.2 == 0))) then
                    (feluccaref03_Range k (d.2.2.2.2.2.2.2.2.1, d.2.2.2.2.2.2.2.2.2.1, d.2.2.2.2.2.2.2.2.2.2.1, 2147483647, d.2.2.2.2.2.2.2.2.2.2.2.2)).bind fun o_10 =>
                      bif o_10 then
                        some (true)
                      else
                        some (false)
                  else
                    some (false)
                else
                  bif decide (d.1 = 3) then
                    bif decide (d.2.2.2.2.2.2.2.2.2.2.2.1 = 0) then
                      (feluccaref03_Range k (d.2.2.2.2.2.2.2.2.1, d.2.2.2.2.2.2.2.2.2.1, d.2.2.2.2.2.2.2.2.2.2.1, 2147483647, d.2.2.2.2.2.2.2.2.2.2.2.2)).bind fun o_11 =>
                        bif o_11 then
                          some (true)
                        else
                          some (false)
                    else
                      some (false)
                  else
                    some (false)
            else
              some (false)
        else
          some (false)
  else
    bif decide (d.2.1 = 2) then
      (feluccaref04_noContact k (d.2.2.1, d.2.2.2.1, d.2.2.2.2.1, d.2.2.2.2.2.1, d.2.2.2.2.2.2.1, d.2.2.2.2.2.2.2.1)).bind fun o_3 =>
        bif o_3 then
          bif decide (d.1 = 1) then
            (feluccaref03_Range k d.2.2.2.2.2.2.2.2).bind fun o_6 =>
              bif o_6 then
                some (true)
              else
                some (false)
          else
            bif decide (d.1 = 2) then
              bif d.2.2.2.2.2.2.2.2.1 == d.2.2.2.2.2.2.2.2.1 && (d.2.2.2.2.2.2.2.2.2.1 == d.2.2.2.2.2.2.2.2.2.1 && (d.2.2.2.2.2.2.2.2.2.2.1 == d.2.2.2.2.2.2.2.2.2.2.1 && (d.2.2.2.2.2.2.2.2.2.2.2.1 == 0 && d.2.2.2.2.2.2.2.2.2.2.2.2 == 0))) then
                (feluccaref03_Range k (d.2.2.2.2.2.2.2.2.1, d.2.2.2.2.2.2.2.2.2.1, d.2.2.2.2.2.2.2.2.2.2.1, 2147483647, d.2.2.2.2.2.2.2.2.2.2.2.2)).bind fun o_8 =>
                  bif o_8 then
                    some (true)
                  else
                    some (false)
              else
                some (false)
            else
              bif decide (d.1 = 3) then
                bif decide (d.2.2.2.2.2.2.2.2.2.2.2.1 = 0) then
                  (feluccaref03_Range k (d.2.2.2.2.2.2.2.2.1, d.2.2.2.2.2.2.2.2.2.1, d.2.2.2.2.2.2.2.2.2.2.1, 2147483647, d.2.2.2.2.2.2.2.2.2.2.2.2)).bind fun o_9 =>
                    bif o_9 then
                      some (true)
                    else
                      some (false)
                else
                  some (false)
              else
                some (false)
        else
          some (false)
    else
      some (false)
noncomputable def feluccaref04_Right_X : Cx Tryd.prog [.one (.sc (.bool))] := ⟨fun k => ⟨[feluccaref04_noRange_e k, feluccaref03_Contact_e k, feluccaref04_whole_e k, feluccaref04_noContact_e k, feluccaref03_Range_e k], [], [hkStr Tryd.prog]⟩, Tryd.f19.ntmps, Tryd.f19.results, []⟩
theorem feluccaref04_Right_eq (k : Nat) (x : GDirective) : feluccaref04_Right k x = runF feluccaref04_Right_X k feluccaref04_Right_c [.agg lGDirective] x := by kernel_rfl
noncomputable def feluccaref04_Right_e (k : Nat) : Ent Tryd.prog := ⟨19, [.agg lGDirective], [.one (.sc (.bool))], feluccaref04_Right k, calls_of (X := feluccaref04_Right_X) (k := k) (c := feluccaref04_Right_c) Tryd.func19 (by kernel_rfl) (by kernel_rfl) (by kernel_rfl) (LoopEqs.all (show LoopEqs feluccaref04_Right_X feluccaref04_Right_c feluccaref04_Right_X.L 0 from trivial)) (fun x => feluccaref04_Right_eq k x), fun _ _ => by kernel_rfl⟩
/-! felucca/feluccaref04.first -/
noncomputable def feluccaref04_first_c : Code := Tryd.f43.body.getD .skip
def feluccaref04_first (k : Nat) : GDirective → Option (List ByteArray) := fun (d) =>
  bif decide (0 ≤ w64 (d.1 - 1)) then
    bif decide (w64 (d.1 - 1) < Int.ofNat (List.length [(⟨#[97]⟩ : ByteArray), (⟨#[100]⟩ : ByteArray), (⟨#[99]⟩ : ByteArray)])) then
      bif decide (0 ≤ w64 (d.2.1 - 1)) then
        bif decide (w64 (d.2.1 - 1) < Int.ofNat (List.length [(⟨#[99, 111, 110, 116, 97, 99, 116]⟩ : ByteArray), (⟨#[114, 97, 110, 103, 101]⟩ : ByteArray)])) then
          some ([List.getD [(⟨#[97]⟩ : ByteArray), (⟨#[100]⟩ : ByteArray), (⟨#[99]⟩ : ByteArray)] (Int.toNat (w64 (d.1 - 1))) (⟨#[]⟩ : ByteArray), List.getD [(⟨#[99, 111, 110, 116, 97, 99, 116]⟩ : ByteArray), (⟨#[114, 97, 110, 103, 101]⟩ : ByteArray)] (Int.toNat (w64 (d.2.1 - 1))) (⟨#[]⟩ : ByteArray)])
        else
          none
      else
        none
    else
      none
  else
    none
noncomputable def feluccaref04_first_X : Cx Tryd.prog [.one (.row 9 [.str])] := ⟨fun k => ⟨[], [], [hkStr Tryd.prog]⟩, Tryd.f43.ntmps, Tryd.f43.results, []⟩
theorem feluccaref04_first_eq (k : Nat) (x : GDirective) : feluccaref04_first k x = runF feluccaref04_first_X k feluccaref04_first_c [.agg lGDirective] x := by kernel_rfl
noncomputable def feluccaref04_first_e (k : Nat) : Ent Tryd.prog := ⟨43, [.agg lGDirective], [.one (.row 9 [.str])], feluccaref04_first k, calls_of (X := feluccaref04_first_X) (k := k) (c := feluccaref04_first_c) Tryd.func43 (by kernel_rfl) (by kernel_rfl) (by kernel_rfl) (LoopEqs.all (show LoopEqs feluccaref04_first_X feluccaref04_first_c feluccaref04_first_X.L 0 from trivial)) (fun x => feluccaref04_first_eq k x), fun _ _ => by kernel_rfl⟩
/-! felucca/feluccaref04.numbers -/
noncomputable def feluccaref04_numbers_c : Code := Tryd.f44.body.getD .skip
def feluccaref04_numbers (k : Nat) : GDirective → Option (List Int) := fun (d) =>
  bif decide (d.2.1 = 1) then
    bif decide (d.1 = 1) then
      some ([d.2.2.1, d.2.2.2.1, d.2.2.2.2.1, d.2.2.2.2.2.1, d.2.2.2.2.2.2.1, d.2.2.2.2.2.2.2.1])
    else
      bif decide (d.1 = 2) then
        some ([d.2.2.1])
      else
        some ([d.2.2.1, d.2.2.2.2.2.2.2.1])
  else
    bif decide (d.1 = 1) then
      some ([d.2.2.2.2.2.2.2.2.1, d.2.2.2.2.2.2.2.2.2.1, d.2.2.2.2.2.2.2.2.2.2.1, d.2.2.2.2.2.2.2.2.2.2.2.1, d.2.2.2.2.2.2.2.2.2.2.2.2])
    else
      bif decide (d.1 = 2) then
        some ([d.2.2.2.2.2.2.2.2.1, d.2.2.2.2.2.2.2.2.2.1, d.2.2.2.2.2.2.2.2.2.2.1])
      else
        some ([d.2.2.2.2.2.2.2.2.1, d.2.2.2.2.2.2.2.2.2.1, d.2.2.2.2.2.2.2.2.2.2.1, d.2.2.2.2.2.2.2.2.2.2.2.2])
noncomputable def feluccaref04_numbers_X : Cx Tryd.prog [.one (.row 3 [.int .i64])] := ⟨fun k => ⟨[], [], [hkStr Tryd.prog]⟩, Tryd.f44.ntmps, Tryd.f44.results, []⟩
theorem feluccaref04_numbers_eq (k : Nat) (x : GDirective) : feluccaref04_numbers k x = runF feluccaref04_numbers_X k feluccaref04_numbers_c [.agg lGDirective] x := by kernel_rfl
noncomputable def feluccaref04_numbers_e (k : Nat) : Ent Tryd.prog := ⟨44, [.agg lGDirective], [.one (.row 3 [.int .i64])], feluccaref04_numbers k, calls_of (X := feluccaref04_numbers_X) (k := k) (c := feluccaref04_numbers_c) Tryd.func44 (by kernel_rfl) (by kernel_rfl) (by kernel_rfl) (LoopEqs.all (show LoopEqs feluccaref04_numbers_X feluccaref04_numbers_c feluccaref04_numbers_X.L 0 from trivial)) (fun x => feluccaref04_numbers_eq k x), fun _ _ => by kernel_rfl⟩
/-! felucca/feluccaref01.Text -/
noncomputable def feluccaref01_Text_c : Code := Tryd.f45.body.getD .skip
def feluccaref01_Text : Nat → Int → Option (ByteArray)
  | 0, _ => none
  | k + 1, (n) =>
  bif decide (n < 0) then
    bif decide (-10 < n) then
      (feluccaref01_Text k (w64 (0 - n))).bind fun o_3 =>
        bif decide (ByteArray.size (⟨#[45]⟩ : ByteArray) + ByteArray.size o_3 ≤ 9223372036854775807) then
          some ((⟨#[45]⟩ : ByteArray) ++ o_3)
        else
          none
    else
      (feluccaref01_Text k (w64 (Int.tdiv n 10))).bind fun o_3 =>
        (feluccaref01_Text k (w64 (0 - Int.tmod n 10))).bind fun o_4 =>
          bif decide (ByteArray.size o_3 + ByteArray.size o_4 ≤ 9223372036854775807) then
            some (o_3 ++ o_4)
          else
            none
  else
    bif decide (n < 10) then
      some (strOfNums [IntKind.wrap IntKind.u8 (w64 (48 + Int.tmod n 10))])
    else
      (feluccaref01_Text k (w64 (Int.tdiv n 10))).bind fun o_3 =>
        bif decide (ByteArray.size o_3 + ByteArray.size (strOfNums [IntKind.wrap IntKind.u8 (w64 (48 + Int.tmod n 10))]) ≤ 9223372036854775807) then
          some (o_3 ++ strOfNums [IntKind.wrap IntKind.u8 (w64 (48 + Int.tmod n 10))])
        else
          none
noncomputable def feluccaref01_Text_X (k : Nat) (ih : CallsOk Tryd.prog 45 [.one (.sc (.int .i64))] [.one (.sc (.str))] (feluccaref01_Text k)) : Cx Tryd.prog [.one (.sc (.str))] := ⟨fun k' => ⟨[⟨45, [.one (.sc (.int .i64))], [.one (.sc (.str))], feluccaref01_Text k, ih, fun _ _ => by kernel_rfl⟩], [], [hkStr Tryd.prog]⟩, Tryd.f45.ntmps, Tryd.f45.results, []⟩
theorem feluccaref01_Text_eq (k : Nat) (ih : CallsOk Tryd.prog 45 [.one (.sc (.int .i64))] [.one (.sc (.str))] (feluccaref01_Text k)) (x : Int) : feluccaref01_Text (k + 1) x = runF (feluccaref01_Text_X k ih) k feluccaref01_Text_c [.one (.sc (.int .i64))] x := by kernel_rfl
theorem feluccaref01_Text_ok : (k : Nat) → CallsOk Tryd.prog 45 [.one (.sc (.int .i64))] [.one (.sc (.str))] (feluccaref01_Text k)
  | 0 => fun _ _ _ _ h => by cases h
  | k + 1 => calls_of (X := feluccaref01_Text_X k (feluccaref01_Text_ok k)) (k := k) (c := feluccaref01_Text_c) Tryd.func45 (by kernel_rfl) (by kernel_rfl) (by kernel_rfl) (LoopEqs.all (show LoopEqs (feluccaref01_Text_X k (feluccaref01_Text_ok k)) feluccaref01_Text_c (feluccaref01_Text_X k (feluccaref01_Text_ok k)).L 0 from trivial)) (fun x => feluccaref01_Text_eq k (feluccaref01_Text_ok k) x)
noncomputable def feluccaref01_Text_e (k : Nat) : Ent Tryd.prog := ⟨45, [.one (.sc (.int .i64))], [.one (.sc (.str))], feluccaref01_Text k, feluccaref01_Text_ok k, fun _ _ => by kernel_rfl⟩
/-! felucca/feluccaref04.Words -/
noncomputable def feluccaref04_Words_c : Code := Tryd.f15.body.getD .skip
def feluccaref04_Words_L0 : Nat → ((List ByteArray) × (List Int) × Int) → Option ((List ByteArray) ⊕ ((List ByteArray) × Bool))
  | 0, _ => none
  | k + 1, (out4, l, i) =>
  bif decide (i < Int.ofNat (List.length l)) then
    bif decide (0 ≤ i) then
      bif decide (i < Int.ofNat (List.length l)) then
        (feluccaref01_Text k (List.getD l (Int.toNat i) 0)).bind fun o_4 =>
          bif decide ((List.length out4 + List.length [o_4]) * 16 ≤ 140737488355328) then
            feluccaref04_Words_L0 k (out4 ++ [o_4], l, w64 (i + 1))
          else
            none
      else
        none
    else
      none
  else
    some (Sum.inl out4)
def feluccaref04_Words (k : Nat) : GDirective → Option ((List ByteArray) × Bool) := fun (d) =>
  (feluccaref04_Right k d).bind fun o_1 =>
    bif o_1 then
      (feluccaref04_first k d).bind fun o_3 =>
        (feluccaref04_numbers k d).bind fun o_4 =>
          (feluccaref04_Words_L0 k (o_3, o_4, 0)).bind fun o_5 =>
            match o_5 with
            | .inl o_6 =>
              some ((o_6, true))
            | .inr o_6 =>
              some (o_6)
    else
      some (([], false))
noncomputable def feluccaref04_Words_X : Cx Tryd.prog [.one (.row 9 [.str]), .one (.sc (.bool))] := ⟨fun k => ⟨[feluccaref04_Right_e k, feluccaref04_first_e k, feluccaref04_numbers_e k, feluccaref01_Text_e k], [], [hkStr Tryd.prog]⟩, Tryd.f15.ntmps, Tryd.f15.results, [some ⟨0, [(4, .one (.own 9 [.str])), (5, .one (.own 3 [.int .i64])), (6, .one (.sc (.int .i64)))], [(4, .one (.own 9 [.str]))], feluccaref04_Words_L0⟩]⟩
theorem feluccaref04_Words_L0_eq (k : Nat) (x : (List ByteArray) × (List Int) × Int) : feluccaref04_Words_L0 (k + 1) x = roundF feluccaref04_Words_X k ⟨0, [(4, .one (.own 9 [.str])), (5, .one (.own 3 [.int .i64])), (6, .one (.sc (.int .i64)))], [(4, .one (.own 9 [.str]))], feluccaref04_Words_L0⟩ 0 (lp feluccaref04_Words_c 0) x := by kernel_rfl
theorem feluccaref04_Words_eq (k : Nat) (x : GDirective) : feluccaref04_Words k x = runF feluccaref04_Words_X k feluccaref04_Words_c [.agg lGDirective] x := by kernel_rfl
noncomputable def feluccaref04_Words_e (k : Nat) : Ent Tryd.prog := ⟨15, [.agg lGDirective], [.one (.row 9 [.str]), .one (.sc (.bool))], feluccaref04_Words k, calls_of (X := feluccaref04_Words_X) (k := k) (c := feluccaref04_Words_c) Tryd.func15 (by kernel_rfl) (by kernel_rfl) (by kernel_rfl) (LoopEqs.all (show LoopEqs feluccaref04_Words_X feluccaref04_Words_c feluccaref04_Words_X.L 0 from ⟨⟨fun _ => rfl, fun k x => feluccaref04_Words_L0_eq k x⟩, trivial⟩)) (fun x => feluccaref04_Words_eq k x), fun _ _ => by kernel_rfl⟩
/-! felucca/feluccaref01.Parse -/
noncomputable def feluccaref01_Parse_c : Code := Tryd.f48.body.getD .skip
def feluccaref01_Parse_L0 : Nat → (ByteArray × Int × Int × Int) → Option ((ByteArray × Int × Int) ⊕ (Int × Bool))
  | 0, _ => none
  | k + 1, (s, high, n, i) =>
  bif decide (i < Int.ofNat (ByteArray.size s)) then
    bif decide (0 ≤ i) && decide (i < Int.ofNat (ByteArray.size s)) then
      bif decide (w64 (w64 (byteI s i) - 48) < 0) then
        some (Sum.inr (0, false))
      else
        bif decide (9 < w64 (w64 (byteI s i) - 48)) then
          some (Sum.inr (0, false))
        else
          bif decide (w64 (Int.tdiv (w64 (9223372036854775807 - w64 (w64 (byteI s i) - 48))) 10) < n) then
            some (Sum.inr (0, false))
          else
            feluccaref01_Parse_L0 k (s, high, w64 (w64 (10 * n) + w64 (w64 (byteI s i) - 48)), w64 (i + 1))
    else
      none
  else
    some (Sum.inl (s, high, n))
def feluccaref01_Parse (k : Nat) : (ByteArray × Int) → Option (Int × Bool) := fun (s, high) =>
  (feluccaref01_Parse_L0 k (s, high, 0, 0)).bind fun o_1 =>
    match o_1 with
    | .inl o_2 =>
      bif decide (o_2.2.1 < o_2.2.2) then
        some ((0, false))
      else
        (feluccaref01_Text k o_2.2.2).bind fun o_4 =>
          bif !o_4.data.toList == o_2.1.data.toList then
            some ((0, false))
          else
            some ((o_2.2.2, true))
    | .inr o_2 =>
      some (o_2)
noncomputable def feluccaref01_Parse_X : Cx Tryd.prog [.one (.sc (.int .i64)), .one (.sc (.bool))] := ⟨fun k => ⟨[feluccaref01_Text_e k], [], [hkStr Tryd.prog]⟩, Tryd.f48.ntmps, Tryd.f48.results, [some ⟨0, [(0, .one (.sc (.str))), (1, .one (.sc (.int .i64))), (6, .one (.sc (.int .i64))), (7, .one (.sc (.int .i64)))], [(0, .one (.sc (.str))), (1, .one (.sc (.int .i64))), (6, .one (.sc (.int .i64)))], feluccaref01_Parse_L0⟩]⟩
theorem feluccaref01_Parse_L0_eq (k : Nat) (x : ByteArray × Int × Int × Int) : feluccaref01_Parse_L0 (k + 1) x = roundF feluccaref01_Parse_X k ⟨0, [(0, .one (.sc (.str))), (1, .one (.sc (.int .i64))), (6, .one (.sc (.int .i64))), (7, .one (.sc (.int .i64)))], [(0, .one (.sc (.str))), (1, .one (.sc (.int .i64))), (6, .one (.sc (.int .i64)))], feluccaref01_Parse_L0⟩ 0 (lp feluccaref01_Parse_c 0) x := by kernel_rfl
theorem feluccaref01_Parse_eq (k : Nat) (x : ByteArray × Int) : feluccaref01_Parse k x = runF feluccaref01_Parse_X k feluccaref01_Parse_c [.one (.sc (.str)), .one (.sc (.int .i64))] x := by kernel_rfl
noncomputable def feluccaref01_Parse_e (k : Nat) : Ent Tryd.prog := ⟨48, [.one (.sc (.str)), .one (.sc (.int .i64))], [.one (.sc (.int .i64)), .one (.sc (.bool))], feluccaref01_Parse k, calls_of (X := feluccaref01_Parse_X) (k := k) (c := feluccaref01_Parse_c) Tryd.func48 (by kernel_rfl) (by kernel_rfl) (by kernel_rfl) (LoopEqs.all (show LoopEqs feluccaref01_Parse_X feluccaref01_Parse_c feluccaref01_Parse_X.L 0 from ⟨⟨fun _ => rfl, fun k x => feluccaref01_Parse_L0_eq k x⟩, trivial⟩)) (fun x => feluccaref01_Parse_eq k x), fun _ _ => by kernel_rfl⟩
/-! felucca/feluccaref04.made -/
noncomputable def feluccaref04_made_c : Code := Tryd.f49.body.getD .skip
def feluccaref04_made (k : Nat) : (Int × Int × (List Int)) → Option (GDirective) := fun (op, kind, n) =>
  bif decide (kind = 1) then
    bif decide (0 < Int.ofNat (List.length n)) then
      bif decide (op = 1) then
        bif decide (0 < Int.ofNat (List.length n)) then
          bif decide (1 < Int.ofNat (List.length n)) then
            bif decide (2 < Int.ofNat (List.length n)) then
              bif decide (3 < Int.ofNat (List.length n)) then
                bif decide (4 < Int.ofNat (List.length n)) then
                  bif decide (5 < Int.ofNat (List.length n)) then
                    bif decide (op = 3) then
                      bif decide (1 < Int.ofNat (List.length n)) then
                        some ((op, kind, List.getD n (Int.toNat 0) 0, List.getD n (Int.toNat 1) 0, List.getD n (Int.toNat 2) 0, List.getD n (Int.toNat 3) 0, List.getD n (Int.toNat 4) 0, List.getD n (Int.toNat 1) 0, 0, 0, 0, 0, 0))
                      else
                        none
                    else
                      some ((op, kind, List.getD n (Int.toNat 0) 0, List.getD n (Int.toNat 1) 0, List.getD n (Int.toNat 2) 0, List.getD n (Int.toNat 3) 0, List.getD n (Int.toNat 4) 0, List.getD n (Int.toNat 5) 0, 0, 0, 0, 0, 0))
                  else
                    none
                else
                  none
              else
                none
            else
              none
          else
            none
        else
          none
      else
        bif decide (op = 3) then
          bif decide (1 < Int.ofNat (List.length n)) then
            some ((op, kind, List.getD n (Int.toNat 0) 0, 0, 0, 0, 0, List.getD n (Int.toNat 1) 0, 0, 0, 0, 0, 0))
          else
            none
        else
          some ((op, kind, List.getD n (Int.toNat 0) 0, 0, 0, 0, 0, 0, 0, 0, 0, 0, 0))
    else
      none
  else
    bif decide (0 < Int.ofNat (List.length n)) then
      bif decide (1 < Int.ofNat (List.length n)) then
        bif decide (2 < Int.ofNat (List.length n)) then
          bif decide (op = 1) then
            bif decide (3 < Int.ofNat (List.length n)) then
              bif decide (4 < Int.ofNat (List.length n)) then
                bif decide (op = 3) then
                  bif decide (3 < Int.ofNat (List.length n)) then
                    some ((op, kind, 0, 0, 0, 0, 0, 0, List.getD n (Int.toNat 0) 0, List.getD n (Int.toNat 1) 0, List.getD n (Int.toNat 2) 0, List.getD n (Int.toNat 3) 0, List.getD n (Int.toNat 3) 0))
                  else
                    none
                else
                  some ((op, kind, 0, 0, 0, 0, 0, 0, List.getD n (Int.toNat 0) 0, List.getD n (Int.toNat 1) 0, List.getD n (Int.toNat 2) 0, List.getD n (Int.toNat 3) 0, List.getD n (Int.toNat 4) 0))
              else
                none
            else
              none
          else
            bif decide (op = 3) then
              bif decide (3 < Int.ofNat (List.length n)) then
                some ((op, kind, 0, 0, 0, 0, 0, 0, List.getD n (Int.toNat 0) 0, List.getD n (Int.toNat 1) 0, List.getD n (Int.toNat 2) 0, 0, List.getD n (Int.toNat 3) 0))
              else
                none
            else
              some ((op, kind, 0, 0, 0, 0, 0, 0, List.getD n (Int.toNat 0) 0, List.getD n (Int.toNat 1) 0, List.getD n (Int.toNat 2) 0, 0, 0))
        else
          none
      else
        none
    else
      none
noncomputable def feluccaref04_made_X : Cx Tryd.prog [.agg lGDirective] := ⟨fun k => ⟨[], [], [hkStr Tryd.prog]⟩, Tryd.f49.ntmps, Tryd.f49.results, []⟩
theorem feluccaref04_made_eq (k : Nat) (x : Int × Int × (List Int)) : feluccaref04_made k x = runF feluccaref04_made_X k feluccaref04_made_c [.one (.sc (.int .i64)), .one (.sc (.int .i64)), .one (.row 3 [.int .i64])] x := by kernel_rfl
noncomputable def feluccaref04_made_e (k : Nat) : Ent Tryd.prog := ⟨49, [.one (.sc (.int .i64)), .one (.sc (.int .i64)), .one (.row 3 [.int .i64])], [.agg lGDirective], feluccaref04_made k, calls_of (X := feluccaref04_made_X) (k := k) (c := feluccaref04_made_c) Tryd.func49 (by kernel_rfl) (by kernel_rfl) (by kernel_rfl) (LoopEqs.all (show LoopEqs feluccaref04_made_X feluccaref04_made_c feluccaref04_made_X.L 0 from trivial)) (fun x => feluccaref04_made_eq k x), fun _ _ => by kernel_rfl⟩
/-! felucca/feluccaref04.Parse -/
noncomputable def feluccaref04_Parse_c : Code := Tryd.f17.body.getD .skip
def feluccaref04_Parse_L2 : Nat → ((List ByteArray) × GDirective × Int × Int × (List Int) × Int) → Option ((GDirective × Int × Int × (List Int)) ⊕ (GDirective × Int))
  | 0, _ => none
  | k + 1, (l, t2, op, kind, n, i) =>
  bif decide (i < Int.ofNat (List.length l)) then
    bif decide (0 ≤ i) then
      bif decide (i < Int.ofNat (List.length l)) then
        (feluccaref01_Parse k (List.getD l (Int.toNat i) (⟨#[]⟩ : ByteArray), 2147483647)).bind fun o_4 =>
          bif o_4.2 then
            bif decide ((List.length n + List.length [o_4.1]) * 8 ≤ 140737488355328) then
              feluccaref04_Parse_L2 k (l, t2, op, kind, n ++ [o_4.1], w64 (i + 1))
            else
              none
          else
            some (Sum.inr ((0, 0, 0, 0, 0, 0, 0, 0, 0, 0, 0, 0, 0), 2))
      else
        none
    else
      none
  else
    some (Sum.inl (t2, op, kind, n))
def feluccaref04_Parse_L1 : Nat → ((List ByteArray) × GDirective × Int × Int) → Option (((List ByteArray) × GDirective × Int) ⊕ (GDirective × Int))
  | 0, _ => none
  | k + 1, (l, t2, op, kind) =>
  bif decide (kind ≤ 2) then
    (feluccaref04_first k (op, kind, 0, 0, 0, 0, 0, 0, 0, 0, 0, 0, 0)).bind fun o_2 =>
      (feluccaref04_numbers k (op, kind, 0, 0, 0, 0, 0, 0, 0, 0, 0, 0, 0)).bind fun o_3 =>
        bif !decide (Int.ofNat (List.length l) = w64 (2 + Int.ofNat (List.length o_3))) then
          feluccaref04_Parse_L1 k (l, t2, op, w64 (kind + 1))
        else
          bif decide (0 < Int.ofNat (List.length l)) then
            bif decide (0 < Int.ofNat (List.length o_2)) then
              bif !(List.getD l (Int.toNat 0) (⟨#[]⟩ : ByteArray)).data.toList == (List.getD o_2 (Int.toNat 0) (⟨#[]⟩ : ByteArray)).data.toList then
                feluccaref04_Parse_L1 k (l, t2, op, w64 (kind + 1))
              else
                bif decide (1 < Int.ofNat (List.length l)) then
                  bif decide (1 < Int.ofNat (List.length o_2)) then
                    bif !(List.getD l (Int.toNat 1) (⟨#[]⟩ : ByteArray)).data.toList == (List.getD o_2 (Int.toNat 1) (⟨#[]⟩ : ByteArray)).data.toList then
                      feluccaref04_Parse_L1 k (l, t2, op, w64 (kind + 1))
                    else
                      (feluccaref04_Parse_L2 k (l, t2, op, kind, [], 2)).bind fun o_11 =>
                        match o_11 with
                        | .inl o_12 =>
                          (feluccaref04_made k o_12.2).bind fun o_13 =>
                            (feluccaref04_Right k o_13).bind fun o_14 =>
                              bif o_14 then
                                some (Sum.inr (o_13, 0))
                              else
                                some (Sum.inr ((0, 0, 0, 0, 0, 0, 0, 0, 0, 0, 0, 0, 0), 1))
                        | .inr o_12 =>
                          some (Sum.inr o_12)
                  else
                    none
                else
                  none
            else
              none
          else
            none
  else
    some (Sum.inl (l, t2, op))
def feluccaref04_Parse_L0 : Nat → ((List ByteArray) × GDirective × Int) → Option ((GDirective) ⊕ (GDirective × Int))
  | 0, _ => none
  | k + 1, (l, t2, op) =>
  bif decide (op ≤ 3) then
    (feluccaref04_Parse_L1 k (l, t2, op, 1)).bind fun o_2 =>
      match o_2 with
      | .inl o_3 =>
        feluccaref04_Parse_L0 k (o_3.1, o_3.2.1, w64 (o_3.2.2 + 1))
      | .inr o_3 =>
        some (Sum.inr o_3)
  else
    some (Sum.inl t2)
def feluccaref04_Parse (k : Nat) : (List ByteArray) → Option (GDirective × Int) := fun (l) =>
  (feluccaref04_Parse_L0 k (l, (0, 0, 0, 0, 0, 0, 0, 0, 0, 0, 0, 0, 0), 1)).bind fun o_1 =>
    match o_1 with
    | .inl o_2 =>
      some (((0, 0, 0, 0, 0, 0, 0, 0, 0, 0, 0, 0, 0), 2))
    | .inr o_2 =>
      some (o_2)
noncomputable def feluccaref04_Parse_X : Cx Tryd.prog [.agg lGDirective, .one (.sc (.int .i64))] := ⟨fun k => ⟨[feluccaref04_Right_e k, feluccaref04_first_e k, feluccaref04_numbers_e k, feluccaref01_Parse_e k, feluccaref04_made_e k], [], [hkStr Tryd.prog]⟩, Tryd.f17.ntmps, Tryd.f17.results, [some ⟨0, [(0, .one (.ro [.str])), (2, .box 27 toGDirective), (4, .one (.sc (.int .i64)))], [(2, .box 27 toGDirective)], feluccaref04_Parse_L0⟩, some ⟨2, [(0, .one (.ro [.str])), (2, .box 27 toGDirective), (4, .one (.sc (.int .i64))), (5, .one (.sc (.int .i64)))], [(0, .one (.ro [.str])), (2, .box 27 toGDirective), (4, .one (.sc (.int .i64)))], feluccaref04_Parse_L1⟩, some ⟨4, [(0, .one (.ro [.str])), (2, .box 27 toGDirective), (4, .one (.sc (.int .i64))), (5, .one (.sc (.int .i64))), (8, .one (.own 3 [.int .i64])), (9, .one (.sc (.int .i64)))], [(2, .box 27 toGDirective), (4, .one (.sc (.int .i64))), (5, .one (.sc (.int .i64))), (8, .one (.own 3 [.int .i64]))], feluccaref04_Parse_L2⟩]⟩
theorem feluccaref04_Parse_L2_eq (k : Nat) (x : (List ByteArray) × GDirective × Int × Int × (List Int) × Int) : feluccaref04_Parse_L2 (k + 1) x = roundF feluccaref04_Parse_X k ⟨4, [(0, .one (.ro [.str])), (2, .box 27 toGDirective), (4, .one (.sc (.int .i64))), (5, .one (.sc (.int .i64))), (8, .one (.own 3 [.int .i64])), (9, .one (.sc (.int .i64)))], [(2, .box 27 toGDirective), (4, .one (.sc (.int .i64))), (5, .one (.sc (.int .i64))), (8, .one (.own 3 [.int .i64]))], feluccaref04_Parse_L2⟩ 2 (lp feluccaref04_Parse_c 2) x := by kernel_rfl
theorem feluccaref04_Parse_L1_eq (k : Nat) (x : (List ByteArray) × GDirective × Int × Int) : feluccaref04_Parse_L1 (k + 1) x = roundF feluccaref04_Parse_X k ⟨2, [(0, .one (.ro [.str])), (2, .box 27 toGDirective), (4, .one (.sc (.int .i64))), (5, .one (.sc (.int .i64)))], [(0, .one (.ro [.str])), (2, .box 27 toGDirective), (4, .one (.sc (.int .i64)))], feluccaref04_Parse_L1⟩ 1 (lp feluccaref04_Parse_c 1) x := by kernel_rfl
theorem feluccaref04_Parse_L0_eq (k : Nat) (x : (List ByteArray) × GDirective × Int) : feluccaref04_Parse_L0 (k + 1) x = roundF feluccaref04_Parse_X k ⟨0, [(0, .one (.ro [.str])), (2, .box 27 toGDirective), (4, .one (.sc (.int .i64)))], [(2, .box 27 toGDirective)], feluccaref04_Parse_L0⟩ 0 (lp feluccaref04_Parse_c 0) x := by kernel_rfl
theorem feluccaref04_Parse_eq (k : Nat) (x : List ByteArray) : feluccaref04_Parse k x = runF feluccaref04_Parse_X k feluccaref04_Parse_c [.one (.row 9 [.str])] x := by kernel_rfl
noncomputable def feluccaref04_Parse_e (k : Nat) : Ent Tryd.prog := ⟨17, [.one (.row 9 [.str])], [.agg lGDirective, .one (.sc (.int .i64))], feluccaref04_Parse k, calls_of (X := feluccaref04_Parse_X) (k := k) (c := feluccaref04_Parse_c) Tryd.func17 (by kernel_rfl) (by kernel_rfl) (by kernel_rfl) (LoopEqs.all (show LoopEqs feluccaref04_Parse_X feluccaref04_Parse_c feluccaref04_Parse_X.L 0 from ⟨⟨fun _ => rfl, fun k x => feluccaref04_Parse_L0_eq k x⟩, ⟨⟨fun _ => rfl, fun k x => feluccaref04_Parse_L1_eq k x⟩, ⟨⟨fun _ => rfl, fun k x => feluccaref04_Parse_L2_eq k x⟩, trivial⟩⟩⟩)) (fun x => feluccaref04_Parse_eq k x), fun _ _ => by kernel_rfl⟩
/-! felucca/feluccaref02.Same -/
noncomputable def feluccaref02_Same_c : Code := Tryd.f20.body.getD .skip
def feluccaref02_Same_L0 : Nat → ((List ByteArray) × (List ByteArray) × Int) → Option ((Unit) ⊕ (Bool))
  | 0, _ => none
  | k + 1, (a, b, i) =>
  bif decide (i < Int.ofNat (List.length a)) then
    bif decide (0 ≤ i) then
      bif decide (i < Int.ofNat (List.length a)) then
        bif decide (0 ≤ i) then
          bif decide (i < Int.ofNat (List.length b)) then
            bif !(List.getD a (Int.toNat i) (⟨#[]⟩ : ByteArray)).data.toList == (List.getD b (Int.toNat i) (⟨#[]⟩ : ByteArray)).data.toList then
              some (Sum.inr false)
            else
              feluccaref02_Same_L0 k (a, b, w64 (i + 1))
          else
            none
        else
          none
      else
        none
    else
      none
  else
    some (Sum.inl ())
def feluccaref02_Same (k : Nat) : ((List ByteArray) × (List ByteArray)) → Option (Bool) := fun (a, b) =>
  bif !decide (Int.ofNat (List.length a) = Int.ofNat (List.length b)) then
    some (false)
  else
    (feluccaref02_Same_L0 k (a, b, 0)).bind fun o_2 =>
      match o_2 with
      | .inl o_3 =>
        some (true)
      | .inr o_3 =>
        some (o_3)
noncomputable def feluccaref02_Same_X : Cx Tryd.prog [.one (.sc (.bool))] := ⟨fun k => ⟨[], [], [hkStr Tryd.prog]⟩, Tryd.f20.ntmps, Tryd.f20.results, [some ⟨0, [(0, .one (.ro [.str])), (1, .one (.ro [.str])), (5, .one (.sc (.int .i64)))], [], feluccaref02_Same_L0⟩]⟩
theorem feluccaref02_Same_L0_eq (k : Nat) (x : (List ByteArray) × (List ByteArray) × Int) : feluccaref02_Same_L0 (k + 1) x = roundF feluccaref02_Same_X k ⟨0, [(0, .one (.ro [.str])), (1, .one (.ro [.str])), (5, .one (.sc (.int .i64)))], [], feluccaref02_Same_L0⟩ 0 (lp feluccaref02_Same_c 0) x := by kernel_rfl
theorem feluccaref02_Same_eq (k : Nat) (x : (List ByteArray) × (List ByteArray)) : feluccaref02_Same k x = runF feluccaref02_Same_X k feluccaref02_Same_c [.one (.row 9 [.str]), .one (.row 9 [.str])] x := by kernel_rfl
noncomputable def feluccaref02_Same_e (k : Nat) : Ent Tryd.prog := ⟨20, [.one (.row 9 [.str]), .one (.row 9 [.str])], [.one (.sc (.bool))], feluccaref02_Same k, calls_of (X := feluccaref02_Same_X) (k := k) (c := feluccaref02_Same_c) Tryd.func20 (by kernel_rfl) (by kernel_rfl) (by kernel_rfl) (LoopEqs.all (show LoopEqs feluccaref02_Same_X feluccaref02_Same_c feluccaref02_Same_X.L 0 from ⟨⟨fun _ => rfl, fun k x => feluccaref02_Same_L0_eq k x⟩, trivial⟩)) (fun x => feluccaref02_Same_eq k x), fun _ _ => by kernel_rfl⟩
/-! felucca/feluccaref02.Lines -/
noncomputable def feluccaref02_Lines_c : Code := Tryd.f66.body.getD .skip
def feluccaref02_Lines_L0 : Nat → (ByteArray × (List ByteArray) × Int × Int) → Option ((ByteArray × (List ByteArray) × Int) ⊕ (List ByteArray))
  | 0, _ => none
  | k + 1, (s, out3, from4, i) =>
  bif decide (i < Int.ofNat (ByteArray.size s)) then
    bif decide (0 ≤ i) && decide (i < Int.ofNat (ByteArray.size s)) then
      bif decide (byteI s i = 10) then
        bif decide (0 ≤ from4) && decide (from4 ≤ i) && decide (i ≤ Int.ofNat (ByteArray.size s)) then
          bif decide ((List.length out3 + List.length [ByteArray.extract s (Int.toNat from4) (Int.toNat i)]) * 16 ≤ 140737488355328) then
            feluccaref02_Lines_L0 k (s, out3 ++ [ByteArray.extract s (Int.toNat from4) (Int.toNat i)], w64 (i + 1), w64 (i + 1))
          else
            none
        else
          none
      else
        feluccaref02_Lines_L0 k (s, out3, from4, w64 (i + 1))
    else
      none
  else
    some (Sum.inl (s, out3, from4))
def feluccaref02_Lines (k : Nat) : ByteArray → Option (List ByteArray) := fun (s) =>
  (feluccaref02_Lines_L0 k (s, [], 0, 0)).bind fun o_1 =>
    match o_1 with
    | .inl o_2 =>
      bif decide (o_2.2.2 < Int.ofNat (ByteArray.size o_2.1)) then
        bif decide (0 ≤ o_2.2.2) && decide (o_2.2.2 ≤ Int.ofNat (ByteArray.size o_2.1)) then
          bif decide ((List.length o_2.2.1 + List.length [ByteArray.extract o_2.1 (Int.toNat o_2.2.2) (ByteArray.size o_2.1)]) * 16 ≤ 140737488355328) then
            some (o_2.2.1 ++ [ByteArray.extract o_2.1 (Int.toNat o_2.2.2) (ByteArray.size o_2.1)])
          else
            none
        else
          none
      else
        some (o_2.2.1)
    | .inr o_2 =>
      some (o_2)
noncomputable def feluccaref02_Lines_X : Cx Tryd.prog [.one (.row 9 [.str])] := ⟨fun k => ⟨[], [], [hkStr Tryd.prog]⟩, Tryd.f66.ntmps, Tryd.f66.results, [some ⟨0, [(0, .one (.sc (.str))), (3, .one (.own 9 [.str])), (4, .one (.sc (.int .i64))), (5, .one (.sc (.int .i64)))], [(0, .one (.sc (.str))), (3, .one (.own 9 [.str])), (4, .one (.sc (.int .i64)))], feluccaref02_Lines_L0⟩]⟩
theorem feluccaref02_Lines_L0_eq (k : Nat) (x : ByteArray × (List ByteArray) × Int × Int) : feluccaref02_Lines_L0 (k + 1) x = roundF feluccaref02_Lines_X k ⟨0, [(0, .one (.sc (.str))), (3, .one (.own 9 [.str])), (4, .one (.sc (.int .i64))), (5, .one (.sc (.int .i64)))], [(0, .one (.sc (.str))), (3, .one (.own 9 [.str])), (4, .one (.sc (.int .i64)))], feluccaref02_Lines_L0⟩ 0 (lp feluccaref02_Lines_c 0) x := by kernel_rfl
theorem feluccaref02_Lines_eq (k : Nat) (x : ByteArray) : feluccaref02_Lines k x = runF feluccaref02_Lines_X k feluccaref02_Lines_c [.one (.sc (.str))] x := by kernel_rfl
noncomputable def feluccaref02_Lines_e (k : Nat) : Ent Tryd.prog := ⟨66, [.one (.sc (.str))], [.one (.row 9 [.str])], feluccaref02_Lines k, calls_of (X := feluccaref02_Lines_X) (k := k) (c := feluccaref02_Lines_c) Tryd.func66 (by kernel_rfl) (by kernel_rfl) (by kernel_rfl) (LoopEqs.all (show LoopEqs feluccaref02_Lines_X feluccaref02_Lines_c feluccaref02_Lines_X.L 0 from ⟨⟨fun _ => rfl, fun k x => feluccaref02_Lines_L0_eq k x⟩, trivial⟩)) (fun x => feluccaref02_Lines_eq k x), fun _ _ => by kernel_rfl⟩
/-! felucca/feluccaref02.blank -/
noncomputable def feluccaref02_blank_c : Code := Tryd.f86.body.getD .skip
def feluccaref02_blank (k : Nat) : Int → Option (Bool) := fun (c0) =>
  bif decide (c0 = 32) then
    some (true)
  else
    bif decide (c0 = 9) then
      some (true)
    else
      bif decide (c0 = 13) then
        some (true)
      else
        some (false)
noncomputable def feluccaref02_blank_X : Cx Tryd.prog [.one (.sc (.bool))] := ⟨fun k => ⟨[], [], [hkStr Tryd.prog]⟩, Tryd.f86.ntmps, Tryd.f86.results, []⟩
theorem feluccaref02_blank_eq (k : Nat) (x : Int) : feluccaref02_blank k x = runF feluccaref02_blank_X k feluccaref02_blank_c [.one (.sc (.int .u8))] x := by kernel_rfl
noncomputable def feluccaref02_blank_e (k : Nat) : Ent Tryd.prog := ⟨86, [.one (.sc (.int .u8))], [.one (.sc (.bool))], feluccaref02_blank k, calls_of (X := feluccaref02_blank_X) (k := k) (c := feluccaref02_blank_c) Tryd.func86 (by kernel_rfl) (by kernel_rfl) (by kernel_rfl) (LoopEqs.all (show LoopEqs feluccaref02_blank_X feluccaref02_blank_c feluccaref02_blank_X.L 0 from trivial)) (fun x => feluccaref02_blank_eq k x), fun _ _ => by kernel_rfl⟩
/-! felucca/feluccaref02.Words -/
noncomputable def feluccaref02_Words_c : Code := Tryd.f67.body.getD .skip
def feluccaref02_Words_L0 : Nat → (ByteArray × (List ByteArray) × ByteArray × Int) → Option (((List ByteArray) × ByteArray) ⊕ (List ByteArray))
  | 0, _ => none
  | k + 1, (s, out3, word, i) =>
  bif decide (i < Int.ofNat (ByteArray.size s)) then
    bif decide (0 ≤ i) && decide (i < Int.ofNat (ByteArray.size s)) then
      bif !decide (byteI s i = 35) then
        bif decide (0 ≤ i) && decide (i < Int.ofNat (ByteArray.size s)) then
          (feluccaref02_blank k (byteI s i)).bind fun o_5 =>
            bif o_5 then
              bif !word.data.toList == (⟨#[]⟩ : ByteArray).data.toList then
                bif decide ((List.length out3 + List.length [word]) * 16 ≤ 140737488355328) then
                  feluccaref02_Words_L0 k (s, out3 ++ [word], (⟨#[]⟩ : ByteArray), w64 (i + 1))
                else
                  none
              else
                feluccaref02_Words_L0 k (s, out3, (⟨#[]⟩ : ByteArray), w64 (i + 1))
            else
              bif decide (0 ≤ i) && decide (i ≤ w64 (i + 1)) && decide (w64 (i + 1) ≤ Int.ofNat (ByteArray.size s)) then
                bif decide (ByteArray.size word + ByteArray.size (ByteArray.extract s (Int.toNat i) (Int.toNat (w64 (i + 1)))) ≤ 9223372036854775807) then
                  feluccaref02_Words_L0 k (s, out3, word ++ ByteArray.extract s (Int.toNat i) (Int.toNat (w64 (i + 1))), w64 (i + 1))
                else
                  none
              else
                none
        else
          none
      else
        some (Sum.inl (out3, word))
    else
      none
  else
    some (Sum.inl (out3, word))
def feluccaref02_Words (k : Nat) : ByteArray → Option (List ByteArray) := fun (s) =>
  (feluccaref02_Words_L0 k (s, [], (⟨#[]⟩ : ByteArray), 0)).bind fun o_1 =>
    match o_1 with
    | .inl o_2 =>
      bif !o_2.2.data.toList == (⟨#[]⟩ : ByteArray).data.toList then
        bif decide ((List.length o_2.1 + List.length [o_2.2]) * 16 ≤ 140737488355328) then
          some (o_2.1 ++ [o_2.2])
        else
          none
      else
        some (o_2.1)
    | .inr o_2 =>
      some (o_2)
noncomputable def feluccaref02_Words_X : Cx Tryd.prog [.one (.row 9 [.str])] := ⟨fun k => ⟨[feluccaref02_blank_e k], [], [hkStr Tryd.prog]⟩, Tryd.f67.ntmps, Tryd.f67.results, [some ⟨0, [(0, .one (.sc (.str))), (3, .one (.own 9 [.str])), (4, .one (.sc (.str))), (5, .one (.sc (.int .i64)))], [(3, .one (.own 9 [.str])), (4, .one (.sc (.str)))], feluccaref02_Words_L0⟩]⟩
theorem feluccaref02_Words_L0_eq (k : Nat) (x : ByteArray × (List ByteArray) × ByteArray × Int) : feluccaref02_Words_L0 (k + 1) x = roundF feluccaref02_Words_X k ⟨0, [(0, .one (.sc (.str))), (3, .one (.own 9 [.str])), (4, .one (.sc (.str))), (5, .one (.sc (.int .i64)))], [(3, .one (.own 9 [.str])), (4, .one (.sc (.str)))], feluccaref02_Words_L0⟩ 0 (lp feluccaref02_Words_c 0) x := by kernel_rfl
theorem feluccaref02_Words_eq (k : Nat) (x : ByteArray) : feluccaref02_Words k x = runF feluccaref02_Words_X k feluccaref02_Words_c [.one (.sc (.str))] x := by kernel_rfl
noncomputable def feluccaref02_Words_e (k : Nat) : Ent Tryd.prog := ⟨67, [.one (.sc (.str))], [.one (.row 9 [.str])], feluccaref02_Words k, calls_of (X := feluccaref02_Words_X) (k := k) (c := feluccaref02_Words_c) Tryd.func67 (by kernel_rfl) (by kernel_rfl) (by kernel_rfl) (LoopEqs.all (show LoopEqs feluccaref02_Words_X feluccaref02_Words_c feluccaref02_Words_X.L 0 from ⟨⟨fun _ => rfl, fun k x => feluccaref02_Words_L0_eq k x⟩, trivial⟩)) (fun x => feluccaref02_Words_eq k x), fun _ _ => by kernel_rfl⟩
/-! felucca/feluccaref02.Line -/
noncomputable def feluccaref02_Line_c : Code := Tryd.f68.body.getD .skip
def feluccaref02_Line_L0 : Nat → ((List ByteArray) × ByteArray × Int) → Option ((ByteArray) ⊕ (ByteArray))
  | 0, _ => none
  | k + 1, (l, s, i) =>
  bif decide (i < Int.ofNat (List.length l)) then
    bif decide (0 < i) then
      bif decide (ByteArray.size s + ByteArray.size (⟨#[32]⟩ : ByteArray) ≤ 9223372036854775807) then
        bif decide (0 ≤ i) then
          bif decide (i < Int.ofNat (List.length l)) then
            bif decide (ByteArray.size (s ++ (⟨#[32]⟩ : ByteArray)) + ByteArray.size (List.getD l (Int.toNat i) (⟨#[]⟩ : ByteArray)) ≤ 9223372036854775807) then
              feluccaref02_Line_L0 k (l, s ++ (⟨#[32]⟩ : ByteArray) ++ List.getD l (Int.toNat i) (⟨#[]⟩ : ByteArray), w64 (i + 1))
            else
              none
          else
            none
        else
          none
      else
        none
    else
      bif decide (0 ≤ i) then
        bif decide (i < Int.ofNat (List.length l)) then
          bif decide (ByteArray.size s + ByteArray.size (List.getD l (Int.toNat i) (⟨#[]⟩ : ByteArray)) ≤ 9223372036854775807) then
            feluccaref02_Line_L0 k (l, s ++ List.getD l (Int.toNat i) (⟨#[]⟩ : ByteArray), w64 (i + 1))
          else
            none
        else
          none
      else
        none
  else
    some (Sum.inl s)
def feluccaref02_Line (k : Nat) : (List ByteArray) → Option (ByteArray) := fun (l) =>
  (feluccaref02_Line_L0 k (l, (⟨#[]⟩ : ByteArray), 0)).bind fun o_1 =>
    match o_1 with
    | .inl o_2 =>
      bif decide (ByteArray.size o_2 + ByteArray.size (⟨#[10]⟩ : ByteArray) ≤ 9223372036854775807) then
        some (o_2 ++ (⟨#[10]⟩ : ByteArray))
      else
        none
    | .inr o_2 =>
      some (o_2)
noncomputable def feluccaref02_Line_X : Cx Tryd.prog [.one (.sc (.str))] := ⟨fun k => ⟨[], [], [hkStr Tryd.prog]⟩, Tryd.f68.ntmps, Tryd.f68.results, [some ⟨0, [(0, .one (.ro [.str])), (3, .one (.sc (.str))), (4, .one (.sc (.int .i64)))], [(3, .one (.sc (.str)))], feluccaref02_Line_L0⟩]⟩
theorem feluccaref02_Line_L0_eq (k : Nat) (x : (List ByteArray) × ByteArray × Int) : feluccaref02_Line_L0 (k + 1) x = roundF feluccaref02_Line_X k ⟨0, [(0, .one (.ro [.str])), (3, .one (.sc (.str))), (4, .one (.sc (.int .i64)))], [(3, .one (.sc (.str)))], feluccaref02_Line_L0⟩ 0 (lp feluccaref02_Line_c 0) x := by kernel_rfl
theorem feluccaref02_Line_eq (k : Nat) (x : List ByteArray) : feluccaref02_Line k x = runF feluccaref02_Line_X k feluccaref02_Line_c [.one (.row 9 [.str])] x := by kernel_rfl
noncomputable def feluccaref02_Line_e (k : Nat) : Ent Tryd.prog := ⟨68, [.one (.row 9 [.str])], [.one (.sc (.str))], feluccaref02_Line k, calls_of (X := feluccaref02_Line_X) (k := k) (c := feluccaref02_Line_c) Tryd.func68 (by kernel_rfl) (by kernel_rfl) (by kernel_rfl) (LoopEqs.all (show LoopEqs feluccaref02_Line_X feluccaref02_Line_c feluccaref02_Line_X.L 0 from ⟨⟨fun _ => rfl, fun k x => feluccaref02_Line_L0_eq k x⟩, trivial⟩)) (fun x => feluccaref02_Line_eq k x), fun _ _ => by kernel_rfl⟩
/-! felucca/feluccaref05.Same -/
noncomputable def feluccaref05_Same_c : Code := Tryd.f35.body.getD .skip
def feluccaref05_Same_L0 : Nat → ((List GDirective) × (List GDirective) × Int) → Option ((Unit) ⊕ (Bool))
  | 0, _ => none
  | k + 1, (a, b, i) =>
  bif decide (i < Int.ofNat (List.length a)) then
    bif decide (0 ≤ i) then
      bif decide (i < Int.ofNat (List.length a)) then
        bif decide (0 ≤ i) then
          bif decide (i < Int.ofNat (List.length b)) then
            bif !((List.getD a (Int.toNat i) (0, 0, 0, 0, 0, 0, 0, 0, 0, 0, 0, 0, 0)).1 == (List.getD b (Int.toNat i) (0, 0, 0, 0, 0, 0, 0, 0, 0, 0, 0, 0, 0)).1 && ((List.getD a (Int.toNat i) (0, 0, 0, 0, 0, 0, 0, 0, 0, 0, 0, 0, 0)).2.1 == (List.getD b (Int.toNat i) (0, 0, 0, 0, 0, 0, 0, 0, 0, 0, 0, 0, 0)).2.1 && ((List.getD a (Int.toNat i) (0, 0, 0, 0, 0, 0, 0, 0, 0, 0, 0, 0, 0)).2.2.1 == (List.getD b (Int.toNat i) (0, 0, 0, 0, 0, 0, 0, 0, 0, 0, 0, 0, 0)).2.2.1 && ((List.getD a (Int.toNat i) (0, 0, 0, 0, 0, 0, 0, 0, 0, 0, 0, 0, 0)).2.2.2.1 == (List.getD b (Int.toNat i) (0, 0, 0, 0, 0, 0, 0, 0, 0, 0, 0, 0, 0)).2.2.2.1 && ((List.getD a (Int.toNat i) (0, 0, 0, 0, 0, 0, 0, 0, 0, 0, 0, 0, 0)).2.2.2.2.1 == (List.getD b (Int.toNat i) (0, 0, 0, 0, 0, 0, 0, 0, 0, 0, 0, 0, 0)).2.2.2.2.1 && ((List.getD a (Int.toNat i) (0, 0, 0, 0, 0, 0, 0, 0, 0, 0, 0, 0, 0)).2.2.2.2.2.1 == (List.getD b (Int.toNat i) (0, 0, 0, 0, 0, 0, 0, 0, 0, 0, 0, 0, 0)).2.2.2.2.2.1 && ((List.getD a (Int.toNat i) (0, 0, 0, 0, 0, 0, 0, 0, 0, 0, 0, 0, 0)).2.2.2.2.2.2.1 == (List.getD b (Int.toNat i) (0, 0, 0, 0, 0, 0, 0, 0, 0, 0, 0, 0, 0)).2.2.2.2.2.2.1 && (List.getD a (Int.toNat i) (0, 0, 0, 0, 0, 0, 0, 0, 0, 0, 0, 0, 0)).2.2.2.2.2.2.2.1 == (List.getD b (Int.toNat i) (0, 0, 0, 0, 0, 0, 0, 0, 0, 0, 0, 0, 0)).2.2.2.2.2.2.2.1)))) && ((List.getD a (Int.toNat i) (0, 0, 0, 0, 0, 0, 0, 0, 0, 0, 0, 0, 0)).2.2.2.2.2.2.2.2.1 == (List.getD b (Int.toNat i) (0, 0, 0, 0, 0, 0, 0, 0, 0, 0, 0, 0, 0)).2.2.2.2.2.2.2.2.1 && ((List.getD a (Int.toNat i) (0, 0, 0, 0, 0, 0, 0, 0, 0, 0, 0, 0, 0)).2.2.2.2.2.2.2.2.2.1 == (List.getD b (Int.toNat i) (0, 0, 0, 0, 0, 0, 0, 0, 0, 0, 0, 0, 0)).2.2.2.2.2.2.2.2.2.1 && ((List.getD a (Int.toNat i) (0, 0, 0, 0, 0, 0, 0, 0, 0, 0, 0, 0, 0)).2.2.2.2.2.2.2.2.2.2.1 == (List.getD b (Int.toNat i) (0, 0, 0, 0, 0, 0, 0, 0, 0, 0, 0, 0, 0)).2.2.2.2.2.2.2.2.2.2.1 && ((List.getD a (Int.toNat i) (0, 0, 0, 0, 0, 0, 0, 0, 0, 0, 0, 0, 0)).2.2.2.2.2.2.2.2.2.2.2.1 == (List.getD b (Int.toNat i) (0, 0, 0, 0, 0, 0, 0, 0, 0, 0, 0, 0, 0)).2.2.2.2.2.2.2.2.2.2.2.1 && (List.getD a (Int.toNat i) (0, 0, 0, 0, 0, 0, 0, 0, 0, 0, 0, 0, 0)).2.2.2.2.2.2.2.2.2.2.2.2 == (List.getD b (Int.toNat i) (0, 0, 0, 0, 0, 0, 0, 0, 0, 0, 0, 0, 0)).2.2.2.2.2.2.2.2.2.2.2.2))))))) then
              some (Sum.inr false)
            else
              feluccaref05_Same_L0 k (a, b, w64 (i + 1))
          else
            none
        else
          none
      else
        none
    else
      none
  else
    some (Sum.inl ())
def feluccaref05_Same (k : Nat) : ((List GDirective) × (List GDirective)) → Option (Bool) := fun (a, b) =>
  bif !decide (Int.ofNat (List.length a) = Int.ofNat (List.length b)) then
    some (false)
  else
    (feluccaref05_Same_L0 k (a, b, 0)).bind fun o_2 =>
      match o_2 with
      | .inl o_3 =>
        some (true)
      | .inr o_3 =>
        some (o_3)
noncomputable def feluccaref05_Same_X : Cx Tryd.prog [.one (.sc (.bool))] := ⟨fun k => ⟨[], [], [hkStr Tryd.prog]⟩, Tryd.f35.ntmps, Tryd.f35.results, [some ⟨0, [(0, .one (.ro kGDirective)), (1, .one (.ro kGDirective)), (5, .one (.sc (.int .i64)))], [], feluccaref05_Same_L0⟩]⟩
theorem feluccaref05_Same_L0_eq (k : Nat) (x : (List GDirective) × (List GDirective) × Int) : feluccaref05_Same_L0 (k + 1) x = roundF feluccaref05_Same_X k ⟨0, [(0, .one (.ro kGDirective)), (1, .one (.ro kGDirective)), (5, .one (.sc (.int .i64)))], [], feluccaref05_Same_L0⟩ 0 (lp feluccaref05_Same_c 0) x := by kernel_rfl
theorem feluccaref05_Same_eq (k : Nat) (x : (List GDirective) × (List GDirective)) : feluccaref05_Same k x = runF feluccaref05_Same_X k feluccaref05_Same_c [.one (.row 27 kGDirective), .one (.row 27 kGDirective)] x := by kernel_rfl
noncomputable def feluccaref05_Same_e (k : Nat) : Ent Tryd.prog := ⟨35, [.one (.row 27 kGDirective), .one (.row 27 kGDirective)], [.one (.sc (.bool))], feluccaref05_Same k, calls_of (X := feluccaref05_Same_X) (k := k) (c := feluccaref05_Same_c) Tryd.func35 (by kernel_rfl) (by kernel_rfl) (by kernel_rfl) (LoopEqs.all (show LoopEqs feluccaref05_Same_X feluccaref05_Same_c feluccaref05_Same_X.L 0 from ⟨⟨fun _ => rfl, fun k x => feluccaref05_Same_L0_eq k x⟩, trivial⟩)) (fun x => feluccaref05_Same_eq k x), fun _ _ => by kernel_rfl⟩
/-! felucca/feluccaref05.Ints -/
noncomputable def feluccaref05_Ints_c : Code := Tryd.f36.body.getD .skip
def feluccaref05_Ints_L0 : Nat → ((List Int) × (List Int) × Int) → Option ((Unit) ⊕ (Bool))
  | 0, _ => none
  | k + 1, (a, b, i) =>
  bif decide (i < Int.ofNat (List.length a)) then
    bif decide (0 ≤ i) then
      bif decide (i < Int.ofNat (List.length a)) then
        bif decide (0 ≤ i) then
          bif decide (i < Int.ofNat (List.length b)) then
            bif !decide (List.getD a (Int.toNat i) 0 = List.getD b (Int.toNat i) 0) then
              some (Sum.inr false)
            else
              feluccaref05_Ints_L0 k (a, b, w64 (i + 1))
          else
            none
        else
          none
      else
        none
    else
      none
  else
    some (Sum.inl ())
def feluccaref05_Ints (k : Nat) : ((List Int) × (List Int)) → Option (Bool) := fun (a, b) =>
  bif !decide (Int.ofNat (List.length a) = Int.ofNat (List.length b)) then
    some (false)
  else
    (feluccaref05_Ints_L0 k (a, b, 0)).bind fun o_2 =>
      match o_2 with
      | .inl o_3 =>
        some (true)
      | .inr o_3 =>
        some (o_3)
noncomputable def feluccaref05_Ints_X : Cx Tryd.prog [.one (.sc (.bool))] := ⟨fun k => ⟨[], [], [hkStr Tryd.prog]⟩, Tryd.f36.ntmps, Tryd.f36.results, [some ⟨0, [(0, .one (.ro [.int .i64])), (1, .one (.ro [.int .i64])), (5, .one (.sc (.int .i64)))], [], feluccaref05_Ints_L0⟩]⟩
theorem feluccaref05_Ints_L0_eq (k : Nat) (x : (List Int) × (List Int) × Int) : feluccaref05_Ints_L0 (k + 1) x = roundF feluccaref05_Ints_X k ⟨0, [(0, .one (.ro [.int .i64])), (1, .one (.ro [.int .i64])), (5, .one (.sc (.int .i64)))], [], feluccaref05_Ints_L0⟩ 0 (lp feluccaref05_Ints_c 0) x := by kernel_rfl
theorem feluccaref05_Ints_eq (k : Nat) (x : (List Int) × (List Int)) : feluccaref05_Ints k x = runF feluccaref05_Ints_X k feluccaref05_Ints_c [.one (.row 3 [.int .i64]), .one (.row 3 [.int .i64])] x := by kernel_rfl
noncomputable def feluccaref05_Ints_e (k : Nat) : Ent Tryd.prog := ⟨36, [.one (.row 3 [.int .i64]), .one (.row 3 [.int .i64])], [.one (.sc (.bool))], feluccaref05_Ints k, calls_of (X := feluccaref05_Ints_X) (k := k) (c := feluccaref05_Ints_c) Tryd.func36 (by kernel_rfl) (by kernel_rfl) (by kernel_rfl) (LoopEqs.all (show LoopEqs feluccaref05_Ints_X feluccaref05_Ints_c feluccaref05_Ints_X.L 0 from ⟨⟨fun _ => rfl, fun k x => feluccaref05_Ints_L0_eq k x⟩, trivial⟩)) (fun x => feluccaref05_Ints_eq k x), fun _ _ => by kernel_rfl⟩
/-! felucca/feluccaref05.Parse -/
noncomputable def feluccaref05_Parse_c : Code := Tryd.f33.body.getD .skip
def feluccaref05_Parse_L0 : Nat → ((Int × Int) × (List ByteArray) × (List GDirective) × Int) → Option (((Int × Int) × (List GDirective)) ⊕ ((List GDirective) × (Int × Int)))
  | 0, _ => none
  | k + 1, (t3, l, out5, i) =>
  bif decide (i < Int.ofNat (List.length l)) then
    bif decide (0 ≤ i) then
      bif decide (i < Int.ofNat (List.length l)) then
        (feluccaref02_Words k (List.getD l (Int.toNat i) (⟨#[]⟩ : ByteArray))).bind fun o_4 =>
          bif decide (Int.ofNat (List.length o_4) = 0) then
            feluccaref05_Parse_L0 k (t3, l, out5, w64 (i + 1))
          else
            (feluccaref04_Parse k o_4).bind fun o_6 =>
              bif !decide (o_6.2 = 0) then
                some (Sum.inr ([], w64 (i + 1), o_6.2))
              else
                bif decide ((List.length out5 + List.length [o_6.1]) * 104 ≤ 140737488355328) then
                  feluccaref05_Parse_L0 k (t3, l, out5 ++ [o_6.1], w64 (i + 1))
                else
                  none
      else
        none
    else
      none
  else
    some (Sum.inl (t3, out5))
def feluccaref05_Parse (k : Nat) : ByteArray → Option ((List GDirective) × (Int × Int)) := fun (s) =>
  (feluccaref02_Lines k s).bind fun o_1 =>
    (feluccaref05_Parse_L0 k ((0, 0), o_1, [], 0)).bind fun o_2 =>
      match o_2 with
      | .inl o_3 =>
        some ((o_3.2, 0, 0))
      | .inr o_3 =>
        some (o_3)
noncomputable def feluccaref05_Parse_X : Cx Tryd.prog [.one (.row 27 kGDirective), .agg [.sc (.int .i64), .sc (.int .i64)]] := ⟨fun k => ⟨[feluccaref04_Parse_e k, feluccaref02_Lines_e k, feluccaref02_Words_e k], [], [hkStr Tryd.prog]⟩, Tryd.f33.ntmps, Tryd.f33.results, [some ⟨0, [(3, .box 58 [.sc (.int .i64), .sc (.int .i64)]), (4, .one (.own 9 [.str])), (5, .one (.own 27 kGDirective)), (6, .one (.sc (.int .i64)))], [(3, .box 58 [.sc (.int .i64), .sc (.int .i64)]), (5, .one (.own 27 kGDirective))], feluccaref05_Parse_L0⟩]⟩
theorem feluccaref05_Parse_L0_eq (k : Nat) (x : (Int × Int) × (List ByteArray) × (List GDirective) × Int) : feluccaref05_Parse_L0 (k + 1) x = roundF feluccaref05_Parse_X k ⟨0, [(3, .box 58 [.sc (.int .i64), .sc (.int .i64)]), (4, .one (.own 9 [.str])), (5, .one (.own 27 kGDirective)), (6, .one (.sc (.int .i64)))], [(3, .box 58 [.sc (.int .i64), .sc (.int .i64)]), (5, .one (.own 27 kGDirective))], feluccaref05_Parse_L0⟩ 0 (lp feluccaref05_Parse_c 0) x := by kernel_rfl
theorem feluccaref05_Parse_eq (k : Nat) (x : ByteArray) : feluccaref05_Parse k x = runF feluccaref05_Parse_X k feluccaref05_Parse_c [.one (.sc (.str))] x := by kernel_rfl
noncomputable def feluccaref05_Parse_e (k : Nat) : Ent Tryd.prog := ⟨33, [.one (.sc (.str))], [.one (.row 27 kGDirective), .agg [.sc (.int .i64), .sc (.int .i64)]], feluccaref05_Parse k, calls_of (X := feluccaref05_Parse_X) (k := k) (c := feluccaref05_Parse_c) Tryd.func33 (by kernel_rfl) (by kernel_rfl) (by kernel_rfl) (LoopEqs.all (show LoopEqs feluccaref05_Parse_X feluccaref05_Parse_c feluccaref05_Parse_X.L 0 from ⟨⟨fun _ => rfl, fun k x => feluccaref05_Parse_L0_eq k x⟩, trivial⟩)) (fun x => feluccaref05_Parse_eq k x), fun _ _ => by kernel_rfl⟩
/-! felucca/feluccaref05.Print -/
noncomputable def feluccaref05_Print_c : Code := Tryd.f34.body.getD .skip
def feluccaref05_Print_L0 : Nat → ((List GDirective) × ByteArray × Int) → Option ((ByteArray) ⊕ (ByteArray × Bool))
  | 0, _ => none
  | k + 1, (l, s, i) =>
  bif decide (i < Int.ofNat (List.length l)) then
    bif decide (0 ≤ i) then
      bif decide (i < Int.ofNat (List.length l)) then
        (feluccaref04_Words k (List.getD l (Int.toNat i) (0, 0, 0, 0, 0, 0, 0, 0, 0, 0, 0, 0, 0))).bind fun o_4 =>
          bif o_4.2 then
            (feluccaref02_Line k o_4.1).bind fun o_6 =>
              bif decide (ByteArray.size s + ByteArray.size o_6 ≤ 9223372036854775807) then
                feluccaref05_Print_L0 k (l, s ++ o_6, w64 (i + 1))
              else
                none
          else
            some (Sum.inr ((⟨#[]⟩ : ByteArray), false))
      else
        none
    else
      none
  else
    some (Sum.inl s)
def feluccaref05_Print (k : Nat) : (List GDirective) → Option (ByteArray × Bool) := fun (l) =>
  (feluccaref05_Print_L0 k (l, (⟨#[]⟩ : ByteArray), 0)).bind fun o_1 =>
    match o_1 with
    | .inl o_2 =>
      some ((o_2, true))
    | .inr o_2 =>
      some (o_2)
noncomputable def feluccaref05_Print_X : Cx Tryd.prog [.one (.sc (.str)), .one (.sc (.bool))] := ⟨fun k => ⟨[feluccaref04_Words_e k, feluccaref02_Line_e k], [], [hkStr Tryd.prog]⟩, Tryd.f34.ntmps, Tryd.f34.results, [some ⟨0, [(0, .one (.ro kGDirective)), (4, .one (.sc (.str))), (5, .one (.sc (.int .i64)))], [(4, .one (.sc (.str)))], feluccaref05_Print_L0⟩]⟩
theorem feluccaref05_Print_L0_eq (k : Nat) (x : (List GDirective) × ByteArray × Int) : feluccaref05_Print_L0 (k + 1) x = roundF feluccaref05_Print_X k ⟨0, [(0, .one (.ro kGDirective)), (4, .one (.sc (.str))), (5, .one (.sc (.int .i64)))], [(4, .one (.sc (.str)))], feluccaref05_Print_L0⟩ 0 (lp feluccaref05_Print_c 0) x := by kernel_rfl
theorem feluccaref05_Print_eq (k : Nat) (x : List GDirective) : feluccaref05_Print k x = runF feluccaref05_Print_X k feluccaref05_Print_c [.one (.row 27 kGDirective)] x := by kernel_rfl
noncomputable def feluccaref05_Print_e (k : Nat) : Ent Tryd.prog := ⟨34, [.one (.row 27 kGDirective)], [.one (.sc (.str)), .one (.sc (.bool))], feluccaref05_Print k, calls_of (X := feluccaref05_Print_X) (k := k) (c := feluccaref05_Print_c) Tryd.func34 (by kernel_rfl) (by kernel_rfl) (by kernel_rfl) (LoopEqs.all (show LoopEqs feluccaref05_Print_X feluccaref05_Print_c feluccaref05_Print_X.L 0 from ⟨⟨fun _ => rfl, fun k x => feluccaref05_Print_L0_eq k x⟩, trivial⟩)) (fun x => feluccaref05_Print_eq k x), fun _ _ => by kernel_rfl⟩
/-! felucca/feluccaref05.Lines -/
noncomputable def feluccaref05_Lines_c : Code := Tryd.f38.body.getD .skip
def feluccaref05_Lines_L0 : Nat → ((List ByteArray) × (List Int) × Int) → Option ((List Int) ⊕ (List Int))
  | 0, _ => none
  | k + 1, (l, out4, i) =>
  bif decide (i < Int.ofNat (List.length l)) then
    bif decide (0 ≤ i) then
      bif decide (i < Int.ofNat (List.length l)) then
        (feluccaref02_Words k (List.getD l (Int.toNat i) (⟨#[]⟩ : ByteArray))).bind fun o_4 =>
          bif decide (0 < Int.ofNat (List.length o_4)) then
            bif decide ((List.length out4 + List.length [w64 (i + 1)]) * 8 ≤ 140737488355328) then
              feluccaref05_Lines_L0 k (l, out4 ++ [w64 (i + 1)], w64 (i + 1))
            else
              none
          else
            feluccaref05_Lines_L0 k (l, out4, w64 (i + 1))
      else
        none
    else
      none
  else
    some (Sum.inl out4)
def feluccaref05_Lines (k : Nat) : ByteArray → Option (List Int) := fun (s) =>
  (feluccaref02_Lines k s).bind fun o_1 =>
    (feluccaref05_Lines_L0 k (o_1, [], 0)).bind fun o_2 =>
      match o_2 with
      | .inl o_3 =>
        some (o_3)
      | .inr o_3 =>
        some (o_3)
noncomputable def feluccaref05_Lines_X : Cx Tryd.prog [.one (.row 3 [.int .i64])] := ⟨fun k => ⟨[feluccaref02_Lines_e k, feluccaref02_Words_e k], [], [hkStr Tryd.prog]⟩, Tryd.f38.ntmps, Tryd.f38.results, [some ⟨0, [(3, .one (.own 9 [.str])), (4, .one (.own 3 [.int .i64])), (5, .one (.sc (.int .i64)))], [(4, .one (.own 3 [.int .i64]))], feluccaref05_Lines_L0⟩]⟩
theorem feluccaref05_Lines_L0_eq (k : Nat) (x : (List ByteArray) × (List Int) × Int) : feluccaref05_Lines_L0 (k + 1) x = roundF feluccaref05_Lines_X k ⟨0, [(3, .one (.own 9 [.str])), (4, .one (.own 3 [.int .i64])), (5, .one (.sc (.int .i64)))], [(4, .one (.own 3 [.int .i64]))], feluccaref05_Lines_L0⟩ 0 (lp feluccaref05_Lines_c 0) x := by kernel_rfl
theorem feluccaref05_Lines_eq (k : Nat) (x : ByteArray) : feluccaref05_Lines k x = runF feluccaref05_Lines_X k feluccaref05_Lines_c [.one (.sc (.str))] x := by kernel_rfl
noncomputable def feluccaref05_Lines_e (k : Nat) : Ent Tryd.prog := ⟨38, [.one (.sc (.str))], [.one (.row 3 [.int .i64])], feluccaref05_Lines k, calls_of (X := feluccaref05_Lines_X) (k := k) (c := feluccaref05_Lines_c) Tryd.func38 (by kernel_rfl) (by kernel_rfl) (by kernel_rfl) (LoopEqs.all (show LoopEqs feluccaref05_Lines_X feluccaref05_Lines_c feluccaref05_Lines_X.L 0 from ⟨⟨fun _ => rfl, fun k x => feluccaref05_Lines_L0_eq k x⟩, trivial⟩)) (fun x => feluccaref05_Lines_eq k x), fun _ _ => by kernel_rfl⟩
end Go.Proofs.YtaknikdbnfmlfaaDoor.Ex
