import Derived.Test.YtggikacbelogcaaGreatF1
import Derived.Test.YtggikacbelogcaaGreatForms
import Derived.Test.YtggikacbelogcaaGreatIns
import Derived.Test.YtggikacbelogcaaGreatInsR
import Derived.Test.YtggikacbelogcaaGreatDelR
namespace Go.Proofs.YtggikacbelogcaaGreat.Ex
open Go
set_option linter.unusedVariables false
set_option maxHeartbeats 0
abbrev T35 := Int × Int × Int × Int × Int
abbrev lT35 : List LK := [.sc (.int .i64), .sc (.int .i64), .sc (.int .i64), .sc (.int .i64), .sc (.int .i64)]
abbrev toT35 : List TL := [.sc (.int .i64), .sc (.int .i64), .sc (.int .i64), .sc (.int .i64), .sc (.int .i64)]
abbrev trT35 : List TL := [.sc (.int .i64), .sc (.int .i64), .sc (.int .i64), .sc (.int .i64), .sc (.int .i64)]
abbrev kT35 : List SK := [.int .i64, .int .i64, .int .i64, .int .i64, .int .i64]
abbrev T37 := Int × Int × Int × Int × Int × Int × Int × Int × Int × Int × Int × Int × Int
abbrev lT37 : List LK := [.sc (.int .i64), .sc (.int .i64), .sc (.int .i64), .sc (.int .i64), .sc (.int .i64), .sc (.int .i64), .sc (.int .i64), .sc (.int .i64), .sc (.int .i64), .sc (.int .i64), .sc (.int .i64), .sc (.int .i64), .sc (.int .i64)]
abbrev toT37 : List TL := [.sc (.int .i64), .sc (.int .i64), .sc (.int .i64), .sc (.int .i64), .sc (.int .i64), .sc (.int .i64), .sc (.int .i64), .sc (.int .i64), .sc (.int .i64), .sc (.int .i64), .sc (.int .i64), .sc (.int .i64), .sc (.int .i64)]
abbrev trT37 : List TL := [.sc (.int .i64), .sc (.int .i64), .sc (.int .i64), .sc (.int .i64), .sc (.int .i64), .sc (.int .i64), .sc (.int .i64), .sc (.int .i64), .sc (.int .i64), .sc (.int .i64), .sc (.int .i64), .sc (.int .i64), .sc (.int .i64)]
abbrev kT37 : List SK := [.int .i64, .int .i64, .int .i64, .int .i64, .int .i64, .int .i64, .int .i64, .int .i64, .int .i64, .int .i64, .int .i64, .int .i64, .int .i64]
abbrev T25 := (List T33) × (List T35) × Int × Int
abbrev lT25 : List LK := [.row 33 kT33, .row 35 kT35, .sc (.int .i64), .sc (.int .i64)]
abbrev toT25 : List TL := [.own 33 kT33, .own 35 kT35, .sc (.int .i64), .sc (.int .i64)]
abbrev trT25 : List TL := [.ro kT33, .ro kT35, .sc (.int .i64), .sc (.int .i64)]
abbrev kT25 : List SK := [.row kT33, .row kT35, .int .i64, .int .i64]
/-! felucca/check.Range -/
noncomputable def check_Range_c : Code := Tryz.f63.body.getD .skip
def check_Range (k : Nat) : T35 → Option (Bool) := fun (r) =>
  (check_way k (r.1, r.2.1)).bind fun o_1 =>
    bif o_1 then
      (check_span k (r.2.2.1, r.2.2.2.1)).bind fun o_3 =>
        bif o_3 then
          (num_In k (r.2.2.2.2, 0, 2147483647)).bind fun o_5 =>
            bif o_5 then
              some (true)
            else
              some (false)
        else
          some (false)
    else
      some (false)
noncomputable def check_Range_X : Cx Tryz.prog [.one (.sc (.bool))] := ⟨fun k => ⟨[check_way_e k, check_span_e k, num_In_e k], [], []⟩, Tryz.f63.ntmps, Tryz.f63.results, []⟩
theorem check_Range_eq (k : Nat) (x : T35) : check_Range k x = runF check_Range_X k check_Range_c [.agg lT35] x := by kernel_rfl
noncomputable def check_Range_e (k : Nat) : Ent Tryz.prog := ⟨63, [.agg lT35], [.one (.sc (.bool))], check_Range k, calls_of (X := check_Range_X) (k := k) (c := check_Range_c) Tryz.func63 (by kernel_rfl) (by kernel_rfl) (by kernel_rfl) (LoopEqs.all (show LoopEqs check_Range_X check_Range_c check_Range_X.L 0 from trivial)) (fun x => check_Range_eq k x), fun _ _ => by kernel_rfl⟩
/-! felucca/direct.may -/
noncomputable def direct_may_c : Code := Tryz.f75.body.getD .skip
def direct_may (k : Nat) : T37 → Option (Bool) := fun (d) =>
  bif !decide (d.1 = 1) then
    bif decide (d.1 = 3) then
      bif decide (d.2.1 = 1) then
        (check_Contact k (d.2.2.1, 1, 2, 0, 1, d.2.2.2.2.2.2.2.1)).bind fun o_4 =>
          bif o_4 then
            some (true)
          else
            some (false)
      else
        (check_Range k (d.2.2.2.2.2.2.2.2.1, d.2.2.2.2.2.2.2.2.2.1, d.2.2.2.2.2.2.2.2.2.2.1, 2147483647, d.2.2.2.2.2.2.2.2.2.2.2.2)).bind fun o_4 =>
          bif o_4 then
            some (true)
          else
            some (false)
    else
      bif decide (d.2.1 = 1) then
        (check_Contact k (d.2.2.1, 1, 2, 0, 1, mx d.2.2.2.2.2.2.2.1 1)).bind fun o_4 =>
          bif o_4 then
            some (true)
          else
            some (false)
      else
        (check_Range k (d.2.2.2.2.2.2.2.2.1, d.2.2.2.2.2.2.2.2.2.1, d.2.2.2.2.2.2.2.2.2.2.1, 2147483647, d.2.2.2.2.2.2.2.2.2.2.2.2)).bind fun o_4 =>
          bif o_4 then
            some (true)
          else
            some (false)
  else
    bif decide (d.2.1 = 1) then
      (check_Contact k (d.2.2.1, d.2.2.2.1, d.2.2.2.2.1, d.2.2.2.2.2.1, d.2.2.2.2.2.2.1, d.2.2.2.2.2.2.2.1)).bind fun o_3 =>
        bif o_3 then
          some (true)
        else
          some (false)
    else
      (check_Range k d.2.2.2.2.2.2.2.2).bind fun o_3 =>
        bif o_3 then
          some (true)
        else
          some (false)
noncomputable def direct_may_X : Cx Tryz.prog [.one (.sc (.bool))] := ⟨fun k => ⟨[check_Contact_e k, check_Range_e k], [], []⟩, Tryz.f75.ntmps, Tryz.f75.results, []⟩
theorem direct_may_eq (k : Nat) (x : T37) : direct_may k x = runF direct_may_X k direct_may_c [.agg lT37] x := by kernel_rfl
noncomputable def direct_may_e (k : Nat) : Ent Tryz.prog := ⟨75, [.agg lT37], [.one (.sc (.bool))], direct_may k, calls_of (X := direct_may_X) (k := k) (c := direct_may_c) Tryz.func75 (by kernel_rfl) (by kernel_rfl) (by kernel_rfl) (LoopEqs.all (show LoopEqs direct_may_X direct_may_c direct_may_X.L 0 from trivial)) (fun x => direct_may_eq k x), fun _ _ => by kernel_rfl⟩
/-! felucca/direct.Right -/
noncomputable def direct_Right_c : Code := Tryz.f39.body.getD .skip
def direct_Right (k : Nat) : T37 → Option (Bool) := fun (d) =>
  bif decide (d.1 = 1) && decide (d.2.1 = 1) then
    bif d.1 == d.1 && (d.2.1 == d.2.1 && (d.2.2.1 == d.2.2.1 && (d.2.2.2.1 == d.2.2.2.1 && (d.2.2.2.2.1 == d.2.2.2.2.1 && (d.2.2.2.2.2.1 == d.2.2.2.2.2.1 && (d.2.2.2.2.2.2.1 == d.2.2.2.2.2.2.1 && d.2.2.2.2.2.2.2.1 == d.2.2.2.2.2.2.2.1)))) && (0 == d.2.2.2.2.2.2.2.2.1 && (0 == d.2.2.2.2.2.2.2.2.2.1 && (0 == d.2.2.2.2.2.2.2.2.2.2.1 && (0 == d.2.2.2.2.2.2.2.2.2.2.2.1 && 0 == d.2.2.2.2.2.2.2.2.2.2.2.2)))))) then
      (direct_may k d).bind fun o_3 =>
        bif o_3 then
          some (true)
        else
          some (false)
    else
      some (false)
  else
    bif decide (d.1 = 2) && decide (d.2.1 = 1) then
      bif d.1 == d.1 && (d.2.1 == d.2.1 && (d.2.2.1 == d.2.2.1 && (0 == d.2.2.2.1 && (0 == d.2.2.2.2.1 && (0 == d.2.2.2.2.2.1 && (0 == d.2.2.2.2.2.2.1 && 0 == d.2.2.2.2.2.2.2.1)))) && (0 == d.2.2.2.2.2.2.2.2.1 && (0 == d.2.2.2.2.2.2.2.2.2.1 && (0 == d.2.2.2.2.2.2.2.2.2.2.1 && (0 == d.2.2.2.2.2.2.2.2.2.2.2.1 && 0 == d.2.2.2.2.2.2.2.2.2.2.2.2)))))) then
        (direct_may k d).bind fun o_4 =>
          bif o_4 then
            some (true)
          else
            some (false)
      else
        some (false)
    else
      bif decide (d.1 = 3) && decide (d.2.1 = 1) then
        bif d.1 == d.1 && (d.2.1 == d.2.1 && (d.2.2.1 == d.2.2.1 && (0 == d.2.2.2.1 && (0 == d.2.2.2.2.1 && (0 == d.2.2.2.2.2.1 && (0 == d.2.2.2.2.2.2.1 && d.2.2.2.2.2.2.2.1 == d.2.2.2.2.2.2.2.1)))) && (0 == d.2.2.2.2.2.2.2.2.1 && (0 == d.2.2.2.2.2.2.2.2.2.1 && (0 == d.2.2.2.2.2.2.2.2.2.2.1 && (0 == d.2.2.2.2.2.2.2.2.2.2.2.1 && 0 == d.2.2.2.2.2.2.2.2.2.2.2.2)))))) then
          (direct_may k d).bind fun o_5 =>
            bif o_5 then
              some (true)
            else
              some (false)
        else
          some (false)
      else
        bif decide (d.1 = 1) && decide (d.2.1 = 2) then
          bif d.1 == d.1 && (d.2.1 == d.2.1 && (0 == d.2.2.1 && (0 == d.2.2.2.1 && (0 == d.2.2.2.2.1 && (0 == d.2.2.2.2.2.1 && (0 == d.2.2.2.2.2.2.1 && 0 == d.2.2.2.2.2.2.2.1)))) && (d.2.2.2.2.2.2.2.2.1 == d.2.2.2.2.2.2.2.2.1 && (d.2.2.2.2.2.2.2.2.2.1 == d.2.2.2.2.2.2.2.2.2.1 && (d.2.2.2.2.2.2.2.2.2.2.1 == d.2.2.2.2.2.2.2.2.2.2.1 && (d.2.2.2.2.2.2.2.2.2.2.2.1 == d.2.2.2.2.2.2.2.2.2.2.2.1 && d.2.2.2.2.2.2.2.2.2.2.2.2 == d.2.2.2.2.2.2.2.2.2.2.2.2)))))) then
            (direct_may k d).bind fun o_6 =>
              bif o_6 then
                some (true)
              else
                some (false)
          else
            some (false)
        else
          bif decide (d.1 = 2) && decide (d.2.1 = 2) then
            bif d.1 == d.1 && (d.2.1 == d.2.1 && (0 == d.2.2.1 && (0 == d.2.2.2.1 && (0 == d.2.2.2.2.1 && (0 == d.2.2.2.2.2.1 && (0 == d.2.2.2.2.2.2.1 && 0 == d.2.2.2.2.2.2.2.1)))) && (d.2.2.2.2.2.2.2.2.1 == d.2.2.2.2.2.2.2.2.1 && (d.2.2.2.2.2.2.2.2.2.1 == d.2.2.2.2.2.2.2.2.2.1 && (d.2.2.2.2.2.2.2.2.2.2.1 == d.2.2.2.2.2.2.2.2.2.2.1 && (0 == d.2.2.2.2.2.2.2.2.2.2.2.1 && 0 == d.2.2.2.2.2.2.2.2.2.2.2.2)))))) then
              (direct_may k d).bind fun o_7 =>
                bif o_7 then
                  some (true)
                else
                  some (false)
            else
              some (false)
          else
            bif decide (d.1 = 3) && decide (d.2.1 = 2) then
              bif d.1 == d.1 && (d.2.1 == d.2.1 && (0 == d.2.2.1 && (0 == d.2.2.2.1 && (0 == d.2.2.2.2.1 && (0 == d.2.2.2.2.2.1 && (0 == d.2.2.2.2.2.2.1 && 0 == d.2.2.2.2.2.2.2.1)))) && (d.2.2.2.2.2.2.2.2.1 == d.2.2.2.2.2.2.2.2.1 && (d.2.2.2.2.2.2.2.2.2.1 == d.2.2.2.2.2.2.2.2.2.1 && (d.2.2.2.2.2.2.2.2.2.2.1 == d.2.2.2.2.2.2.2.2.2.2.1 && (0 == d.2.2.2.2.2.2.2.2.2.2.2.1 && d.2.2.2.2.2.2.2.2.2.2.2.2 == d.2.2.2.2.2.2.2.2.2.2.2.2)))))) then
                (direct_may k d).bind fun o_8 =>
                  bif o_8 then
                    some (true)
                  else
                    some (false)
              else
                some (false)
            else
              some (false)
noncomputable def direct_Right_X : Cx Tryz.prog [.one (.sc (.bool))] := ⟨fun k => ⟨[direct_may_e k], [], [hkMapC fC, hkMap fT, hkClo [fClo1, fClo2, fClo3, fClo4, fClo5, fClo6], hkRow Tryz.prog]⟩, Tryz.f39.ntmps, Tryz.f39.results, [none]⟩
theorem direct_Right_eq (k : Nat) (x : T37) : direct_Right k x = runF direct_Right_X k direct_Right_c [.agg lT37] x := by kernel_rfl
noncomputable def direct_Right_e (k : Nat) : Ent Tryz.prog := ⟨39, [.agg lT37], [.one (.sc (.bool))], direct_Right k, calls_of (X := direct_Right_X) (k := k) (c := direct_Right_c) Tryz.func39 (by kernel_rfl) (by kernel_rfl) (by kernel_rfl) (LoopEqs.all (show LoopEqs direct_Right_X direct_Right_c direct_Right_X.L 0 from trivial)) (fun x => direct_Right_eq k x), fun _ _ => by kernel_rfl⟩
/-! felucca/ranges.Compare -/
noncomputable def ranges_Compare_c : Code := Tryz.f64.body.getD .skip
def ranges_Compare (k : Nat) : (T35 × T35) → Option (Int) := fun (a, b) =>
  (cmp_Compare_int k (a.1, b.1)).bind fun o_1 =>
    (cmp_Compare_int k (a.2.1, b.2.1)).bind fun o_2 =>
      (cmp_Compare_int k (a.2.2.1, b.2.2.1)).bind fun o_3 =>
        (cmp_Or_int k [o_1, o_2, o_3]).bind fun o_4 =>
          some (o_4)
noncomputable def ranges_Compare_X : Cx Tryz.prog [.one (.sc (.int .i64))] := ⟨fun k => ⟨[cmp_Or_int_e k, cmp_Compare_int_e k], [], []⟩, Tryz.f64.ntmps, Tryz.f64.results, []⟩
theorem ranges_Compare_eq (k : Nat) (x : T35 × T35) : ranges_Compare k x = runF ranges_Compare_X k ranges_Compare_c [.agg lT35, .agg lT35] x := by kernel_rfl
noncomputable def ranges_Compare_e (k : Nat) : Ent Tryz.prog := ⟨64, [.agg lT35, .agg lT35], [.one (.sc (.int .i64))], ranges_Compare k, calls_of (X := ranges_Compare_X) (k := k) (c := ranges_Compare_c) Tryz.func64 (by kernel_rfl) (by kernel_rfl) (by kernel_rfl) (LoopEqs.all (show LoopEqs ranges_Compare_X ranges_Compare_c ranges_Compare_X.L 0 from trivial)) (fun x => ranges_Compare_eq k x), fun _ _ => by kernel_rfl⟩
/-! felucca/ranges.overlap -/
noncomputable def ranges_overlap_c : Code := Tryz.f65.body.getD .skip
def ranges_overlap (k : Nat) : (T35 × T35) → Option (Bool) := fun (a, b) =>
  bif decide (a.1 = b.1) then
    bif decide (a.2.1 = b.2.1) then
      bif decide (mx a.2.2.1 b.2.2.1 < mn a.2.2.2.1 b.2.2.2.1) then
        some (true)
      else
        some (false)
    else
      some (false)
  else
    some (false)
noncomputable def ranges_overlap_X : Cx Tryz.prog [.one (.sc (.bool))] := ⟨fun k => ⟨[], [], []⟩, Tryz.f65.ntmps, Tryz.f65.results, []⟩
theorem ranges_overlap_eq (k : Nat) (x : T35 × T35) : ranges_overlap k x = runF ranges_overlap_X k ranges_overlap_c [.agg lT35, .agg lT35] x := by kernel_rfl
noncomputable def ranges_overlap_e (k : Nat) : Ent Tryz.prog := ⟨65, [.agg lT35, .agg lT35], [.one (.sc (.bool))], ranges_overlap k, calls_of (X := ranges_overlap_X) (k := k) (c := ranges_overlap_c) Tryz.func65 (by kernel_rfl) (by kernel_rfl) (by kernel_rfl) (LoopEqs.all (show LoopEqs ranges_overlap_X ranges_overlap_c ranges_overlap_X.L 0 from trivial)) (fun x => ranges_overlap_eq k x), fun _ _ => by kernel_rfl⟩
/-! slices.Clone[[]felucca/api.Range,felucca/api.Range] -/
noncomputable def slices_Clone_api_Range_api_Range_c : Code := Tryz.f38.body.getD .skip
def slices_Clone_api_Range_api_Range (k : Nat) : (List T35) → Option (List T35) := fun s =>
  bif decide ((0 + List.length s) * 40 ≤ 140737488355328) then
    some (s)
  else
    none
noncomputable def slices_Clone_api_Range_api_Range_X : Cx Tryz.prog [.one (.row 35 kT35)] := ⟨fun _ => ⟨[], [], []⟩, Tryz.f38.ntmps, Tryz.f38.results, []⟩
theorem slices_Clone_api_Range_api_Range_eq (k : Nat) (x : List T35) : slices_Clone_api_Range_api_Range k x = runAt slices_Clone_api_Range_api_Range_X k (restC slices_Clone_api_Range_api_Range_c) (cloneS kT35 x) := by kernel_rfl
noncomputable def slices_Clone_api_Range_api_Range_e (k : Nat) : Ent Tryz.prog := ⟨38, [.one (.row 35 kT35)], [.one (.row 35 kT35)], slices_Clone_api_Range_api_Range k, clone_calls (sT := 23) (bT := 4) (e := 35) (rest := restC slices_Clone_api_Range_api_Range_c) (X := slices_Clone_api_Range_api_Range_X) (k := k) Tryz.func38 (by kernel_rfl) (by kernel_rfl) (by kernel_rfl) (by kernel_rfl) rfl (by kernel_rfl) (by kernel_rfl) (by kernel_rfl) (by kernel_rfl) (by kernel_rfl) (fun l => slices_Clone_api_Range_api_Range_eq k l), fun _ _ => by kernel_rfl⟩
/-! slices.Equal[[]felucca/api.Range,felucca/api.Range] -/
noncomputable def slices_Equal_api_Range_api_Range_c : Code := Tryz.f73.body.getD .skip
def slices_Equal_api_Range_api_Range_L0 : Nat → ((List T35) × (List T35) × Int × Int) → Option ((Unit) ⊕ (Bool))
  | 0, _ => none
  | k + 1, (s1, s2, t12, t13) =>
  bif decide (t13 < t12) then
    bif decide (0 ≤ t13) then
      bif decide (t13 < Int.ofNat (List.length s1)) then
        bif decide (0 ≤ t13) then
          bif decide (t13 < Int.ofNat (List.length s2)) then
            bif !((List.getD s1 (Int.toNat t13) (0, 0, 0, 0, 0)).1 == (List.getD s2 (Int.toNat t13) (0, 0, 0, 0, 0)).1 && ((List.getD s1 (Int.toNat t13) (0, 0, 0, 0, 0)).2.1 == (List.getD s2 (Int.toNat t13) (0, 0, 0, 0, 0)).2.1 && ((List.getD s1 (Int.toNat t13) (0, 0, 0, 0, 0)).2.2.1 == (List.getD s2 (Int.toNat t13) (0, 0, 0, 0, 0)).2.2.1 && ((List.getD s1 (Int.toNat t13) (0, 0, 0, 0, 0)).2.2.2.1 == (List.getD s2 (Int.toNat t13) (0, 0, 0, 0, 0)).2.2.2.1 && (List.getD s1 (Int.toNat t13) (0, 0, 0, 0, 0)).2.2.2.2 == (List.getD s2 (Int.toNat t13) (0, 0, 0, 0, 0)).2.2.2.2)))) then
              some (Sum.inr false)
            else
              slices_Equal_api_Range_api_Range_L0 k (s1, s2, t12, w64 (t13 + 1))
          else
            none
        else
          none
      else
        none
    else
      none
  else
    some (Sum.inl ())
def slices_Equal_api_Range_api_Range (k : Nat) : ((List T35) × (List T35)) → Option (Bool) := fun (s1, s2) =>
  bif !decide (Int.ofNat (List.length s1) = Int.ofNat (List.length s2)) then
    some (false)
  else
    (slices_Equal_api_Range_api_Range_L0 k (s1, s2, Int.ofNat (List.length s1), 0)).bind fun o_2 =>
      match o_2 with
      | .inl o_3 =>
        some (true)
      | .inr o_3 =>
        some (o_3)
noncomputable def slices_Equal_api_Range_api_Range_X : Cx Tryz.prog [.one (.sc (.bool))] := ⟨fun k => ⟨[], [], []⟩, Tryz.f73.ntmps, Tryz.f73.results, [some ⟨0, [(0, .one (.ro kT35)), (1, .one (.ro kT35)), (12, .one (.sc (.int .i64))), (13, .one (.sc (.int .i64)))], [], slices_Equal_api_Range_api_Range_L0⟩]⟩
theorem slices_Equal_api_Range_api_Range_L0_eq (k : Nat) (x : (List T35) × (List T35) × Int × Int) : slices_Equal_api_Range_api_Range_L0 (k + 1) x = roundF slices_Equal_api_Range_api_Range_X k ⟨0, [(0, .one (.ro kT35)), (1, .one (.ro kT35)), (12, .one (.sc (.int .i64))), (13, .one (.sc (.int .i64)))], [], slices_Equal_api_Range_api_Range_L0⟩ 0 (lp slices_Equal_api_Range_api_Range_c 0) x := by kernel_rfl
theorem slices_Equal_api_Range_api_Range_eq (k : Nat) (x : (List T35) × (List T35)) : slices_Equal_api_Range_api_Range k x = runF slices_Equal_api_Range_api_Range_X k slices_Equal_api_Range_api_Range_c [.one (.row 35 kT35), .one (.row 35 kT35)] x := by kernel_rfl
noncomputable def slices_Equal_api_Range_api_Range_e (k : Nat) : Ent Tryz.prog := ⟨73, [.one (.row 35 kT35), .one (.row 35 kT35)], [.one (.sc (.bool))], slices_Equal_api_Range_api_Range k, calls_of (X := slices_Equal_api_Range_api_Range_X) (k := k) (c := slices_Equal_api_Range_api_Range_c) Tryz.func73 (by kernel_rfl) (by kernel_rfl) (by kernel_rfl) (LoopEqs.all (show LoopEqs slices_Equal_api_Range_api_Range_X slices_Equal_api_Range_api_Range_c slices_Equal_api_Range_api_Range_X.L 0 from ⟨⟨fun _ => rfl, fun k x => slices_Equal_api_Range_api_Range_L0_eq k x⟩, trivial⟩)) (fun x => slices_Equal_api_Range_api_Range_eq k x), fun _ _ => by kernel_rfl⟩
/-! felucca/ranges.Same -/
noncomputable def ranges_Same_c : Code := Tryz.f34.body.getD .skip
def ranges_Same (k : Nat) : ((List T35) × (List T35)) → Option (Bool) := fun (a, b) =>
  (slices_Equal_api_Range_api_Range k (a, b)).bind fun o_1 =>
    bif o_1 then
      some (true)
    else
      some (false)
noncomputable def ranges_Same_X : Cx Tryz.prog [.one (.sc (.bool))] := ⟨fun k => ⟨[slices_Equal_api_Range_api_Range_e k], [], []⟩, Tryz.f34.ntmps, Tryz.f34.results, []⟩
theorem ranges_Same_eq (k : Nat) (x : (List T35) × (List T35)) : ranges_Same k x = runF ranges_Same_X k ranges_Same_c [.one (.row 35 kT35), .one (.row 35 kT35)] x := by kernel_rfl
noncomputable def ranges_Same_e (k : Nat) : Ent Tryz.prog := ⟨34, [.one (.row 35 kT35), .one (.row 35 kT35)], [.one (.sc (.bool))], ranges_Same k, calls_of (X := ranges_Same_X) (k := k) (c := ranges_Same_c) Tryz.func34 (by kernel_rfl) (by kernel_rfl) (by kernel_rfl) (LoopEqs.all (show LoopEqs ranges_Same_X ranges_Same_c ranges_Same_X.L 0 from trivial)) (fun x => ranges_Same_eq k x), fun _ _ => by kernel_rfl⟩
/-! felucca/plan.Right$1 -/
noncomputable def plan_Right_1_c : Code := Tryz.f25.body.getD .skip
def plan_Right_1 (k : Nat) : (T33 × T25) → Option (Bool) := fun (c0, t1) =>
  bif decide (c0.2.2.2.2.1 ≤ t1.2.2.1) then
    some (true)
  else
    some (false)
noncomputable def plan_Right_1_X : Cx Tryz.prog [.one (.sc (.bool))] := ⟨fun k => ⟨[], [], []⟩, Tryz.f25.ntmps, Tryz.f25.results, []⟩
theorem plan_Right_1_eq (k : Nat) (x : T33 × T25) : plan_Right_1 k x = runF plan_Right_1_X k plan_Right_1_c [.agg lT33, .one (.ptr [.row kT33, .row kT35, .int .i64, .int .i64])] x := by kernel_rfl
noncomputable def plan_Right_1_e (k : Nat) : Ent Tryz.prog := ⟨25, [.agg lT33, .one (.ptr [.row kT33, .row kT35, .int .i64, .int .i64])], [.one (.sc (.bool))], plan_Right_1 k, calls_of (X := plan_Right_1_X) (k := k) (c := plan_Right_1_c) Tryz.func25 (by kernel_rfl) (by kernel_rfl) (by kernel_rfl) (LoopEqs.all (show LoopEqs plan_Right_1_X plan_Right_1_c plan_Right_1_X.L 0 from trivial)) (fun x => plan_Right_1_eq k x), fun _ _ => by kernel_rfl⟩
/-! felucca/plan.Right$2 -/
noncomputable def plan_Right_2_c : Code := Tryz.f26.body.getD .skip
def plan_Right_2 (k : Nat) : (T35 × T25) → Option (Bool) := fun (r, t1) =>
  bif decide (r.2.2.2.1 ≤ t1.2.2.1) then
    some (true)
  else
    some (false)
noncomputable def plan_Right_2_X : Cx Tryz.prog [.one (.sc (.bool))] := ⟨fun k => ⟨[], [], []⟩, Tryz.f26.ntmps, Tryz.f26.results, []⟩
theorem plan_Right_2_eq (k : Nat) (x : T35 × T25) : plan_Right_2 k x = runF plan_Right_2_X k plan_Right_2_c [.agg lT35, .one (.ptr [.row kT33, .row kT35, .int .i64, .int .i64])] x := by kernel_rfl
noncomputable def plan_Right_2_e (k : Nat) : Ent Tryz.prog := ⟨26, [.agg lT35, .one (.ptr [.row kT33, .row kT35, .int .i64, .int .i64])], [.one (.sc (.bool))], plan_Right_2 k, calls_of (X := plan_Right_2_X) (k := k) (c := plan_Right_2_c) Tryz.func26 (by kernel_rfl) (by kernel_rfl) (by kernel_rfl) (LoopEqs.all (show LoopEqs plan_Right_2_X plan_Right_2_c plan_Right_2_X.L 0 from trivial)) (fun x => plan_Right_2_eq k x), fun _ _ => by kernel_rfl⟩
/-! slices.IndexFunc[[]felucca/api.Contact,felucca/api.Contact] -/
noncomputable def IndexFunc_r1_c : Code := Tryz.f58.body.getD .skip
def IndexFunc_r1_L0 : Nat → ((List T33) × T25 × Int × Int) → Option ((Unit) ⊕ (Int))
  | 0, _ => none
  | k + 1, (s, f, t7, t8) =>
  bif decide (t8 < t7) then
    bif decide (0 ≤ t8) then
      bif decide (t8 < Int.ofNat (List.length s)) then
        (plan_Right_1 k (List.getD s (Int.toNat t8) (0, 0, 0, 0, 0, 0), f)).bind fun o_4 =>
          bif o_4 then
            some (Sum.inr t8)
          else
            IndexFunc_r1_L0 k (s, f, t7, w64 (t8 + 1))
      else
        none
    else
      none
  else
    some (Sum.inl ())
def IndexFunc_r1 (k : Nat) : ((List T33) × T25) → Option (Int) := fun (s, f) =>
  (IndexFunc_r1_L0 k (s, f, Int.ofNat (List.length s), 0)).bind fun o_1 =>
    match o_1 with
    | .inl o_2 =>
      some (-1)
    | .inr o_2 =>
      some (o_2)
noncomputable def IndexFunc_r1_X : Cx Tryz.prog [.one (.sc (.int .i64))] := ⟨fun k => ⟨[plan_Right_1_e k], [], []⟩, Tryz.f58.ntmps, Tryz.f58.results, [some ⟨0, [(0, .one (.ro kT33)), (1, .fnp 25 [[.row kT33, .row kT35, .int .i64, .int .i64]]), (7, .one (.sc (.int .i64))), (8, .one (.sc (.int .i64)))], [], IndexFunc_r1_L0⟩]⟩
theorem IndexFunc_r1_L0_eq (k : Nat) (x : (List T33) × T25 × Int × Int) : IndexFunc_r1_L0 (k + 1) x = roundF IndexFunc_r1_X k ⟨0, [(0, .one (.ro kT33)), (1, .fnp 25 [[.row kT33, .row kT35, .int .i64, .int .i64]]), (7, .one (.sc (.int .i64))), (8, .one (.sc (.int .i64)))], [], IndexFunc_r1_L0⟩ 0 (lp IndexFunc_r1_c 0) x := by kernel_rfl
theorem IndexFunc_r1_eq (k : Nat) (x : (List T33) × T25) : IndexFunc_r1 k x = runF IndexFunc_r1_X k IndexFunc_r1_c [.one (.row 33 kT33), .one (.fnc 25 [[.row kT33, .row kT35, .int .i64, .int .i64]])] x := by kernel_rfl
noncomputable def IndexFunc_r1_e (k : Nat) : Ent Tryz.prog := ⟨58, [.one (.row 33 kT33), .one (.fnc 25 [[.row kT33, .row kT35, .int .i64, .int .i64]])], [.one (.sc (.int .i64))], IndexFunc_r1 k, calls_of (X := IndexFunc_r1_X) (k := k) (c := IndexFunc_r1_c) Tryz.func58 (by kernel_rfl) (by kernel_rfl) (by kernel_rfl) (LoopEqs.all (show LoopEqs IndexFunc_r1_X IndexFunc_r1_c IndexFunc_r1_X.L 0 from ⟨⟨fun _ => rfl, fun k x => IndexFunc_r1_L0_eq k x⟩, trivial⟩)) (fun x => IndexFunc_r1_eq k x), fun _ _ => by kernel_rfl⟩
/-! slices.ContainsFunc[[]felucca/api.Contact,felucca/api.Contact] -/
noncomputable def ContainsFunc_r1_c : Code := Tryz.f27.body.getD .skip
def ContainsFunc_r1 (k : Nat) : ((List T33) × T25) → Option (Bool) := fun (s, f) =>
  (IndexFunc_r1 k (s, f)).bind fun o_1 =>
    bif decide (0 ≤ o_1) then
      some (true)
    else
      some (false)
noncomputable def ContainsFunc_r1_X : Cx Tryz.prog [.one (.sc (.bool))] := ⟨fun k => ⟨[plan_Right_1_e k, IndexFunc_of_e k, IndexFunc_ov_e k, IndexFunc_r1_e k], [], []⟩, Tryz.f27.ntmps, Tryz.f27.results, []⟩
theorem ContainsFunc_r1_eq (k : Nat) (x : (List T33) × T25) : ContainsFunc_r1 k x = runF ContainsFunc_r1_X k ContainsFunc_r1_c [.one (.row 33 kT33), .one (.fnc 25 [[.row kT33, .row kT35, .int .i64, .int .i64]])] x := by kernel_rfl
noncomputable def ContainsFunc_r1_e (k : Nat) : Ent Tryz.prog := ⟨27, [.one (.row 33 kT33), .one (.fnc 25 [[.row kT33, .row kT35, .int .i64, .int .i64]])], [.one (.sc (.bool))], ContainsFunc_r1 k, calls_of (X := ContainsFunc_r1_X) (k := k) (c := ContainsFunc_r1_c) Tryz.func27 (by kernel_rfl) (by kernel_rfl) (by kernel_rfl) (LoopEqs.all (show LoopEqs ContainsFunc_r1_X ContainsFunc_r1_c ContainsFunc_r1_X.L 0 from trivial)) (fun x => ContainsFunc_r1_eq k x), fun _ _ => by kernel_rfl⟩
/-! felucca/ranges.Add$1 -/
noncomputable def ranges_Add_1_c : Code := Tryz.f81.body.getD .skip
def ranges_Add_1 (k : Nat) : (T35 × T35) → Option (Bool) := fun (x0, t1) =>
  (ranges_overlap k (x0, t1)).bind fun o_1 =>
    bif o_1 then
      some (true)
    else
      some (false)
noncomputable def ranges_Add_1_X : Cx Tryz.prog [.one (.sc (.bool))] := ⟨fun k => ⟨[ranges_overlap_e k], [], []⟩, Tryz.f81.ntmps, Tryz.f81.results, []⟩
theorem ranges_Add_1_eq (k : Nat) (x : T35 × T35) : ranges_Add_1 k x = runF ranges_Add_1_X k ranges_Add_1_c [.agg lT35, .one (.ptr [.int .i64, .int .i64, .int .i64, .int .i64, .int .i64])] x := by kernel_rfl
noncomputable def ranges_Add_1_e (k : Nat) : Ent Tryz.prog := ⟨81, [.agg lT35, .one (.ptr [.int .i64, .int .i64, .int .i64, .int .i64, .int .i64])], [.one (.sc (.bool))], ranges_Add_1 k, calls_of (X := ranges_Add_1_X) (k := k) (c := ranges_Add_1_c) Tryz.func81 (by kernel_rfl) (by kernel_rfl) (by kernel_rfl) (LoopEqs.all (show LoopEqs ranges_Add_1_X ranges_Add_1_c ranges_Add_1_X.L 0 from trivial)) (fun x => ranges_Add_1_eq k x), fun _ _ => by kernel_rfl⟩
/-! felucca/ranges.Expire$1 -/
noncomputable def ranges_Expire_1_c : Code := Tryz.f94.body.getD .skip
def ranges_Expire_1 (k : Nat) : (T35 × Int) → Option (Bool) := fun (r, t1) =>
  bif decide (r.2.2.2.1 ≤ t1) then
    some (true)
  else
    some (false)
noncomputable def ranges_Expire_1_X : Cx Tryz.prog [.one (.sc (.bool))] := ⟨fun k => ⟨[], [], []⟩, Tryz.f94.ntmps, Tryz.f94.results, []⟩
theorem ranges_Expire_1_eq (k : Nat) (x : T35 × Int) : ranges_Expire_1 k x = runF ranges_Expire_1_X k ranges_Expire_1_c [.agg lT35, .one (.ptr [.int .i64])] x := by kernel_rfl
noncomputable def ranges_Expire_1_e (k : Nat) : Ent Tryz.prog := ⟨94, [.agg lT35, .one (.ptr [.int .i64])], [.one (.sc (.bool))], ranges_Expire_1 k, calls_of (X := ranges_Expire_1_X) (k := k) (c := ranges_Expire_1_c) Tryz.func94 (by kernel_rfl) (by kernel_rfl) (by kernel_rfl) (LoopEqs.all (show LoopEqs ranges_Expire_1_X ranges_Expire_1_c ranges_Expire_1_X.L 0 from trivial)) (fun x => ranges_Expire_1_eq k x), fun _ _ => by kernel_rfl⟩
/-! slices.IndexFunc[[]felucca/api.Range,felucca/api.Range] -/
noncomputable def IndexFuncR_r2_c : Code := Tryz.f59.body.getD .skip
def IndexFuncR_r2_L0 : Nat → ((List T35) × T25 × Int × Int) → Option ((Unit) ⊕ (Int))
  | 0, _ => none
  | k + 1, (s, f, t7, t8) =>
  bif decide (t8 < t7) then
    bif decide (0 ≤ t8) then
      bif decide (t8 < Int.ofNat (List.length s)) then
        (plan_Right_2 k (List.getD s (Int.toNat t8) (0, 0, 0, 0, 0), f)).bind fun o_4 =>
          bif o_4 then
            some (Sum.inr t8)
          else
            IndexFuncR_r2_L0 k (s, f, t7, w64 (t8 + 1))
      else
        none
    else
      none
  else
    some (Sum.inl ())
def IndexFuncR_r2 (k : Nat) : ((List T35) × T25) → Option (Int) := fun (s, f) =>
  (IndexFuncR_r2_L0 k (s, f, Int.ofNat (List.length s), 0)).bind fun o_1 =>
    match o_1 with
    | .inl o_2 =>
      some (-1)
    | .inr o_2 =>
      some (o_2)
noncomputable def IndexFuncR_r2_X : Cx Tryz.prog [.one (.sc (.int .i64))] := ⟨fun k => ⟨[plan_Right_2_e k], [], []⟩, Tryz.f59.ntmps, Tryz.f59.results, [some ⟨0, [(0, .one (.ro kT35)), (1, .fnp 26 [[.row kT33, .row kT35, .int .i64, .int .i64]]), (7, .one (.sc (.int .i64))), (8, .one (.sc (.int .i64)))], [], IndexFuncR_r2_L0⟩]⟩
theorem IndexFuncR_r2_L0_eq (k : Nat) (x : (List T35) × T25 × Int × Int) : IndexFuncR_r2_L0 (k + 1) x = roundF IndexFuncR_r2_X k ⟨0, [(0, .one (.ro kT35)), (1, .fnp 26 [[.row kT33, .row kT35, .int .i64, .int .i64]]), (7, .one (.sc (.int .i64))), (8, .one (.sc (.int .i64)))], [], IndexFuncR_r2_L0⟩ 0 (lp IndexFuncR_r2_c 0) x := by kernel_rfl
theorem IndexFuncR_r2_eq (k : Nat) (x : (List T35) × T25) : IndexFuncR_r2 k x = runF IndexFuncR_r2_X k IndexFuncR_r2_c [.one (.row 35 kT35), .one (.fnc 26 [[.row kT33, .row kT35, .int .i64, .int .i64]])] x := by kernel_rfl
noncomputable def IndexFuncR_r2_e (k : Nat) : Ent Tryz.prog := ⟨59, [.one (.row 35 kT35), .one (.fnc 26 [[.row kT33, .row kT35, .int .i64, .int .i64]])], [.one (.sc (.int .i64))], IndexFuncR_r2 k, calls_of (X := IndexFuncR_r2_X) (k := k) (c := IndexFuncR_r2_c) Tryz.func59 (by kernel_rfl) (by kernel_rfl) (by kernel_rfl) (LoopEqs.all (show LoopEqs IndexFuncR_r2_X IndexFuncR_r2_c IndexFuncR_r2_X.L 0 from ⟨⟨fun _ => rfl, fun k x => IndexFuncR_r2_L0_eq k x⟩, trivial⟩)) (fun x => IndexFuncR_r2_eq k x), fun _ _ => by kernel_rfl⟩
/-! slices.IndexFunc[[]felucca/api.Range,felucca/api.Range] -/
noncomputable def IndexFuncR_ov_c : Code := Tryz.f59.body.getD .skip
def IndexFuncR_ov_L0 : Nat → ((List T35) × T35 × Int × Int) → Option ((Unit) ⊕ (Int))
  | 0, _ => none
  | k + 1, (s, f, t7, t8) =>
  bif decide (t8 < t7) then
    bif decide (0 ≤ t8) then
      bif decide (t8 < Int.ofNat (List.length s)) then
        (ranges_Add_1 k (List.getD s (Int.toNat t8) (0, 0, 0, 0, 0), f)).bind fun o_4 =>
          bif o_4 then
            some (Sum.inr t8)
          else
            IndexFuncR_ov_L0 k (s, f, t7, w64 (t8 + 1))
      else
        none
    else
      none
  else
    some (Sum.inl ())
def IndexFuncR_ov (k : Nat) : ((List T35) × T35) → Option (Int) := fun (s, f) =>
  (IndexFuncR_ov_L0 k (s, f, Int.ofNat (List.length s), 0)).bind fun o_1 =>
    match o_1 with
    | .inl o_2 =>
      some (-1)
    | .inr o_2 =>
      some (o_2)
noncomputable def IndexFuncR_ov_X : Cx Tryz.prog [.one (.sc (.int .i64))] := ⟨fun k => ⟨[ranges_Add_1_e k], [], []⟩, Tryz.f59.ntmps, Tryz.f59.results, [some ⟨0, [(0, .one (.ro kT35)), (1, .fnp 81 [[.int .i64, .int .i64, .int .i64, .int .i64, .int .i64]]), (7, .one (.sc (.int .i64))), (8, .one (.sc (.int .i64)))], [], IndexFuncR_ov_L0⟩]⟩
theorem IndexFuncR_ov_L0_eq (k : Nat) (x : (List T35) × T35 × Int × Int) : IndexFuncR_ov_L0 (k + 1) x = roundF IndexFuncR_ov_X k ⟨0, [(0, .one (.ro kT35)), (1, .fnp 81 [[.int .i64, .int .i64, .int .i64, .int .i64, .int .i64]]), (7, .one (.sc (.int .i64))), (8, .one (.sc (.int .i64)))], [], IndexFuncR_ov_L0⟩ 0 (lp IndexFuncR_ov_c 0) x := by kernel_rfl
theorem IndexFuncR_ov_eq (k : Nat) (x : (List T35) × T35) : IndexFuncR_ov k x = runF IndexFuncR_ov_X k IndexFuncR_ov_c [.one (.row 35 kT35), .one (.fnc 81 [[.int .i64, .int .i64, .int .i64, .int .i64, .int .i64]])] x := by kernel_rfl
noncomputable def IndexFuncR_ov_e (k : Nat) : Ent Tryz.prog := ⟨59, [.one (.row 35 kT35), .one (.fnc 81 [[.int .i64, .int .i64, .int .i64, .int .i64, .int .i64]])], [.one (.sc (.int .i64))], IndexFuncR_ov k, calls_of (X := IndexFuncR_ov_X) (k := k) (c := IndexFuncR_ov_c) Tryz.func59 (by kernel_rfl) (by kernel_rfl) (by kernel_rfl) (LoopEqs.all (show LoopEqs IndexFuncR_ov_X IndexFuncR_ov_c IndexFuncR_ov_X.L 0 from ⟨⟨fun _ => rfl, fun k x => IndexFuncR_ov_L0_eq k x⟩, trivial⟩)) (fun x => IndexFuncR_ov_eq k x), fun _ _ => by kernel_rfl⟩
/-! slices.IndexFunc[[]felucca/api.Range,felucca/api.Range] -/
noncomputable def IndexFuncR_ex_c : Code := Tryz.f59.body.getD .skip
def IndexFuncR_ex_L0 : Nat → ((List T35) × Int × Int × Int) → Option ((Unit) ⊕ (Int))
  | 0, _ => none
  | k + 1, (s, f, t7, t8) =>
  bif decide (t8 < t7) then
    bif decide (0 ≤ t8) then
      bif decide (t8 < Int.ofNat (List.length s)) then
        (ranges_Expire_1 k (List.getD s (Int.toNat t8) (0, 0, 0, 0, 0), f)).bind fun o_4 =>
          bif o_4 then
            some (Sum.inr t8)
          else
            IndexFuncR_ex_L0 k (s, f, t7, w64 (t8 + 1))
      else
        none
    else
      none
  else
    some (Sum.inl ())
def IndexFuncR_ex (k : Nat) : ((List T35) × Int) → Option (Int) := fun (s, f) =>
  (IndexFuncR_ex_L0 k (s, f, Int.ofNat (List.length s), 0)).bind fun o_1 =>
    match o_1 with
    | .inl o_2 =>
      some (-1)
    | .inr o_2 =>
      some (o_2)
noncomputable def IndexFuncR_ex_X : Cx Tryz.prog [.one (.sc (.int .i64))] := ⟨fun k => ⟨[ranges_Expire_1_e k], [], []⟩, Tryz.f59.ntmps, Tryz.f59.results, [some ⟨0, [(0, .one (.ro kT35)), (1, .fnp 94 [[.int .i64]]), (7, .one (.sc (.int .i64))), (8, .one (.sc (.int .i64)))], [], IndexFuncR_ex_L0⟩]⟩
theorem IndexFuncR_ex_L0_eq (k : Nat) (x : (List T35) × Int × Int × Int) : IndexFuncR_ex_L0 (k + 1) x = roundF IndexFuncR_ex_X k ⟨0, [(0, .one (.ro kT35)), (1, .fnp 94 [[.int .i64]]), (7, .one (.sc (.int .i64))), (8, .one (.sc (.int .i64)))], [], IndexFuncR_ex_L0⟩ 0 (lp IndexFuncR_ex_c 0) x := by kernel_rfl
theorem IndexFuncR_ex_eq (k : Nat) (x : (List T35) × Int) : IndexFuncR_ex k x = runF IndexFuncR_ex_X k IndexFuncR_ex_c [.one (.row 35 kT35), .one (.fnc 94 [[.int .i64]])] x := by kernel_rfl
noncomputable def IndexFuncR_ex_e (k : Nat) : Ent Tryz.prog := ⟨59, [.one (.row 35 kT35), .one (.fnc 94 [[.int .i64]])], [.one (.sc (.int .i64))], IndexFuncR_ex k, calls_of (X := IndexFuncR_ex_X) (k := k) (c := IndexFuncR_ex_c) Tryz.func59 (by kernel_rfl) (by kernel_rfl) (by kernel_rfl) (LoopEqs.all (show LoopEqs IndexFuncR_ex_X IndexFuncR_ex_c IndexFuncR_ex_X.L 0 from ⟨⟨fun _ => rfl, fun k x => IndexFuncR_ex_L0_eq k x⟩, trivial⟩)) (fun x => IndexFuncR_ex_eq k x), fun _ _ => by kernel_rfl⟩
/-! slices.ContainsFunc[[]felucca/api.Range,felucca/api.Range] -/
noncomputable def ContainsFuncR_r2_c : Code := Tryz.f28.body.getD .skip
def ContainsFuncR_r2 (k : Nat) : ((List T35) × T25) → Option (Bool) := fun (s, f) =>
  (IndexFuncR_r2 k (s, f)).bind fun o_1 =>
    bif decide (0 ≤ o_1) then
      some (true)
    else
      some (false)
noncomputable def ContainsFuncR_r2_X : Cx Tryz.prog [.one (.sc (.bool))] := ⟨fun k => ⟨[plan_Right_2_e k, IndexFuncR_r2_e k, IndexFuncR_ov_e k, IndexFuncR_ex_e k], [], []⟩, Tryz.f28.ntmps, Tryz.f28.results, []⟩
theorem ContainsFuncR_r2_eq (k : Nat) (x : (List T35) × T25) : ContainsFuncR_r2 k x = runF ContainsFuncR_r2_X k ContainsFuncR_r2_c [.one (.row 35 kT35), .one (.fnc 26 [[.row kT33, .row kT35, .int .i64, .int .i64]])] x := by kernel_rfl
noncomputable def ContainsFuncR_r2_e (k : Nat) : Ent Tryz.prog := ⟨28, [.one (.row 35 kT35), .one (.fnc 26 [[.row kT33, .row kT35, .int .i64, .int .i64]])], [.one (.sc (.bool))], ContainsFuncR_r2 k, calls_of (X := ContainsFuncR_r2_X) (k := k) (c := ContainsFuncR_r2_c) Tryz.func28 (by kernel_rfl) (by kernel_rfl) (by kernel_rfl) (LoopEqs.all (show LoopEqs ContainsFuncR_r2_X ContainsFuncR_r2_c ContainsFuncR_r2_X.L 0 from trivial)) (fun x => ContainsFuncR_r2_eq k x), fun _ _ => by kernel_rfl⟩
/-! slices.ContainsFunc[[]felucca/api.Range,felucca/api.Range] -/
noncomputable def ContainsFuncR_ov_c : Code := Tryz.f28.body.getD .skip
def ContainsFuncR_ov (k : Nat) : ((List T35) × T35) → Option (Bool) := fun (s, f) =>
  (IndexFuncR_ov k (s, f)).bind fun o_1 =>
    bif decide (0 ≤ o_1) then
      some (true)
    else
      some (false)
noncomputable def ContainsFuncR_ov_X : Cx Tryz.prog [.one (.sc (.bool))] := ⟨fun k => ⟨[IndexFuncR_r2_e k, IndexFuncR_ov_e k, IndexFuncR_ex_e k, ranges_Add_1_e k], [], []⟩, Tryz.f28.ntmps, Tryz.f28.results, []⟩
theorem ContainsFuncR_ov_eq (k : Nat) (x : (List T35) × T35) : ContainsFuncR_ov k x = runF ContainsFuncR_ov_X k ContainsFuncR_ov_c [.one (.row 35 kT35), .one (.fnc 81 [[.int .i64, .int .i64, .int .i64, .int .i64, .int .i64]])] x := by kernel_rfl
noncomputable def ContainsFuncR_ov_e (k : Nat) : Ent Tryz.prog := ⟨28, [.one (.row 35 kT35), .one (.fnc 81 [[.int .i64, .int .i64, .int .i64, .int .i64, .int .i64]])], [.one (.sc (.bool))], ContainsFuncR_ov k, calls_of (X := ContainsFuncR_ov_X) (k := k) (c := ContainsFuncR_ov_c) Tryz.func28 (by kernel_rfl) (by kernel_rfl) (by kernel_rfl) (LoopEqs.all (show LoopEqs ContainsFuncR_ov_X ContainsFuncR_ov_c ContainsFuncR_ov_X.L 0 from trivial)) (fun x => ContainsFuncR_ov_eq k x), fun _ _ => by kernel_rfl⟩
/-! slices.DeleteFunc[[]felucca/api.Range,felucca/api.Range] -/
noncomputable def DeleteFuncR_ex_c : Code := Tryz.f93.body.getD .skip
def DeleteFuncR_ex_L0 : Nat → ((List T35) × Int × Int × Int) → Option (((List T35) × Int) ⊕ (List T35))
  | 0, _ => none
  | k + 1, (s, del, i, j) =>
  bif decide (j < Int.ofNat (List.length s)) then
    bif decide (0 ≤ j) then
      bif decide (j < Int.ofNat (List.length s)) then
        (ranges_Expire_1 k (List.getD s (Int.toNat j) (0, 0, 0, 0, 0), del)).bind fun o_4 =>
          bif o_4 then
            DeleteFuncR_ex_L0 k (s, del, i, w64 (j + 1))
          else
            bif decide (0 ≤ i) then
              bif decide (i < Int.ofNat (List.length s)) then
                DeleteFuncR_ex_L0 k (List.set s (Int.toNat i) (List.getD s (Int.toNat j) (0, 0, 0, 0, 0)), del, w64 (i + 1), w64 (j + 1))
              else
                none
            else
              none
      else
        none
    else
      none
  else
    some (Sum.inl (s, i))
def DeleteFuncR_ex (k : Nat) : List T35 → Int → Option (List T35) := fun s (del) =>
  (IndexFuncR_ex k (s, del)).bind fun o_1 =>
    bif decide (o_1 = -1) then
      some (s)
    else
      (DeleteFuncR_ex_L0 k (s, del, o_1, w64 (o_1 + 1))).bind fun o_3 =>
        match o_3 with
        | .inl o_4 =>
          bif decide (0 ≤ o_4.2) then
            bif decide (o_4.2 ≤ Int.ofNat (List.length o_4.1)) then
              bif decide (0 ≤ o_4.2) then
                bif decide (o_4.2 ≤ Int.ofNat (List.length (clearL o_4.1 (Int.toNat o_4.2) (0, 0, 0, 0, 0)))) then
                  some (List.take (Int.toNat o_4.2) (clearL o_4.1 (Int.toNat o_4.2) (0, 0, 0, 0, 0)))
                else
                  none
              else
                none
            else
              none
          else
            none
        | .inr o_4 =>
          some (o_4)
noncomputable def DeleteFuncR_ex_X : Cx Tryz.prog [.one (.row 35 kT35)] := ⟨fun k => ⟨[IndexFuncR_r2_e k, IndexFuncR_ov_e k, IndexFuncR_ex_e k, ranges_Expire_1_e k], [], []⟩, Tryz.f93.ntmps, Tryz.f93.results, [some ⟨0, [(0, .one (.own 35 kT35)), (1, .fnp 94 [[.int .i64]]), (5, .one (.sc (.int .i64))), (6, .one (.sc (.int .i64)))], [(0, .one (.own 35 kT35)), (5, .one (.sc (.int .i64)))], DeleteFuncR_ex_L0⟩]⟩
theorem DeleteFuncR_ex_L0_eq (k : Nat) (x : (List T35) × Int × Int × Int) : DeleteFuncR_ex_L0 (k + 1) x = roundF DeleteFuncR_ex_X k ⟨0, [(0, .one (.own 35 kT35)), (1, .fnp 94 [[.int .i64]]), (5, .one (.sc (.int .i64))), (6, .one (.sc (.int .i64)))], [(0, .one (.own 35 kT35)), (5, .one (.sc (.int .i64)))], DeleteFuncR_ex_L0⟩ 0 (lp DeleteFuncR_ex_c 0) x := by kernel_rfl
theorem DeleteFuncR_ex_eq (k : Nat) (l : List T35) (x : Int) : DeleteFuncR_ex k l x = runM (T := 35) (s := kT35) DeleteFuncR_ex_X k DeleteFuncR_ex_c [.one (.fnc 94 [[.int .i64]])] l x := by kernel_rfl
noncomputable def DeleteFuncR_ex_m (k : Nat) : EntM Tryz.prog := ⟨93, 35, kT35, [.one (.fnc 94 [[.int .i64]])], false, DeleteFuncR_ex k, mut_of (X := DeleteFuncR_ex_X) (k := k) (c := DeleteFuncR_ex_c) (by kernel_rfl) Tryz.func93 (by kernel_rfl) (by kernel_rfl) (by kernel_rfl) (LoopEqs.all (show LoopEqs DeleteFuncR_ex_X DeleteFuncR_ex_c DeleteFuncR_ex_X.L 0 from ⟨⟨fun _ => rfl, fun k x => DeleteFuncR_ex_L0_eq k x⟩, trivial⟩)) (fun l x => DeleteFuncR_ex_eq k l x), fun _ _ => by kernel_rfl⟩
/-! slices.BinarySearchFunc[[]felucca/api.Range,felucca/api.Range,felucca/api.Range] -/
noncomputable def BinarySearchFunc_R_c : Code := Tryz.f82.body.getD .skip
def BinarySearchFunc_R_L0 : Nat → ((List T35) × Unit × T35 × Int × Int × Int) → Option (((List T35) × Unit × T35 × Int × Int) ⊕ (Int × Bool))
  | 0, _ => none
  | k + 1, (x0, cmp, target, n, i, j) =>
  bif decide (i < j) then
    bif decide (0 ≤ w64 (Int.fdiv (IntKind.wrap IntKind.u64 (w64 (i + j))) (2 ^ min (Int.toNat 1) 64))) then
      bif decide (w64 (Int.fdiv (IntKind.wrap IntKind.u64 (w64 (i + j))) (2 ^ min (Int.toNat 1) 64)) < Int.ofNat (List.length x0)) then
        (ranges_Compare k (List.getD x0 (Int.toNat (w64 (Int.fdiv (IntKind.wrap IntKind.u64 (w64 (i + j))) (2 ^ min (Int.toNat 1) 64)))) (0, 0, 0, 0, 0), target)).bind fun o_4 =>
          bif decide (o_4 < 0) then
            BinarySearchFunc_R_L0 k (x0, (), target, n, w64 (w64 (Int.fdiv (IntKind.wrap IntKind.u64 (w64 (i + j))) (2 ^ min (Int.toNat 1) 64)) + 1), j)
          else
            BinarySearchFunc_R_L0 k (x0, (), target, n, i, w64 (Int.fdiv (IntKind.wrap IntKind.u64 (w64 (i + j))) (2 ^ min (Int.toNat 1) 64)))
      else
        none
    else
      none
  else
    some (Sum.inl (x0, (), target, n, i))
def BinarySearchFunc_R (k : Nat) : ((List T35) × T35 × Unit) → Option (Int × Bool) := fun (x0, target, cmp) =>
  (BinarySearchFunc_R_L0 k (x0, (), target, Int.ofNat (List.length x0), 0, Int.ofNat (List.length x0))).bind fun o_1 =>
    match o_1 with
    | .inl o_2 =>
      bif decide (o_2.2.2.2.2 < o_2.2.2.2.1) then
        bif decide (0 ≤ o_2.2.2.2.2) then
          bif decide (o_2.2.2.2.2 < Int.ofNat (List.length o_2.1)) then
            (ranges_Compare k (List.getD o_2.1 (Int.toNat o_2.2.2.2.2) (0, 0, 0, 0, 0), o_2.2.2.1)).bind fun o_6 =>
              bif decide (o_6 = 0) then
                some ((o_2.2.2.2.2, true))
              else
                some ((o_2.2.2.2.2, false))
          else
            none
        else
          none
      else
        some ((o_2.2.2.2.2, false))
    | .inr o_2 =>
      some (o_2)
noncomputable def BinarySearchFunc_R_X : Cx Tryz.prog [.one (.sc (.int .i64)), .one (.sc (.bool))] := ⟨fun k => ⟨[ranges_Compare_e k], [], []⟩, Tryz.f82.ntmps, Tryz.f82.results, [some ⟨0, [(0, .one (.ro kT35)), (2, .fnp 64 []), (4, .box 35 trT35), (8, .one (.sc (.int .i64))), (9, .one (.sc (.int .i64))), (10, .one (.sc (.int .i64)))], [(0, .one (.ro kT35)), (2, .fnp 64 []), (4, .box 35 trT35), (8, .one (.sc (.int .i64))), (9, .one (.sc (.int .i64)))], BinarySearchFunc_R_L0⟩]⟩
theorem BinarySearchFunc_R_L0_eq (k : Nat) (x : (List T35) × Unit × T35 × Int × Int × Int) : BinarySearchFunc_R_L0 (k + 1) x = roundF BinarySearchFunc_R_X k ⟨0, [(0, .one (.ro kT35)), (2, .fnp 64 []), (4, .box 35 trT35), (8, .one (.sc (.int .i64))), (9, .one (.sc (.int .i64))), (10, .one (.sc (.int .i64)))], [(0, .one (.ro kT35)), (2, .fnp 64 []), (4, .box 35 trT35), (8, .one (.sc (.int .i64))), (9, .one (.sc (.int .i64)))], BinarySearchFunc_R_L0⟩ 0 (lp BinarySearchFunc_R_c 0) x := by kernel_rfl
theorem BinarySearchFunc_R_eq (k : Nat) (x : (List T35) × T35 × Unit) : BinarySearchFunc_R k x = runF BinarySearchFunc_R_X k BinarySearchFunc_R_c [.one (.row 35 kT35), .agg lT35, .one (.fnc 64 [])] x := by kernel_rfl
noncomputable def BinarySearchFunc_R_e (k : Nat) : Ent Tryz.prog := ⟨82, [.one (.row 35 kT35), .agg lT35, .one (.fnc 64 [])], [.one (.sc (.int .i64)), .one (.sc (.bool))], BinarySearchFunc_R k, calls_of (X := BinarySearchFunc_R_X) (k := k) (c := BinarySearchFunc_R_c) Tryz.func82 (by kernel_rfl) (by kernel_rfl) (by kernel_rfl) (LoopEqs.all (show LoopEqs BinarySearchFunc_R_X BinarySearchFunc_R_c BinarySearchFunc_R_X.L 0 from ⟨⟨fun _ => rfl, fun k x => BinarySearchFunc_R_L0_eq k x⟩, trivial⟩)) (fun x => BinarySearchFunc_R_eq k x), fun _ _ => by kernel_rfl⟩
/-! slices.Insert[[]felucca/api.Range,felucca/api.Range] (by hand) -/
def slices_InsertR (_k : Nat) : List T35 → (Int × (List T35)) → Option (List T35) := insF 40
noncomputable def slices_InsertR_m (k : Nat) : EntM Tryz.prog := ⟨83, 35, kT35, [.one (.sc (.int .i64)), .one (.row 35 kT35)], false, slices_InsertR k, ins35_mut, fun _ _ => by kernel_rfl⟩
/-! slices.Delete[[]felucca/api.Range,felucca/api.Range] (by hand) -/
def slices_DeleteR (_k : Nat) : List T35 → (Int × Int) → Option (List T35) := delF
noncomputable def slices_DeleteR_m (k : Nat) : EntM Tryz.prog := ⟨84, 35, kT35, [.one (.sc (.int .i64)), .one (.sc (.int .i64))], false, slices_DeleteR k, del35_mut, fun _ _ => by kernel_rfl⟩
/-! slices.Insert[[]felucca/api.Contact,felucca/api.Contact] (by hand) -/
def slices_Insert (_k : Nat) : List T33 → (Int × (List T33)) → Option (List T33) := insF 48
noncomputable def slices_Insert_m (k : Nat) : EntM Tryz.prog := ⟨79, 33, kT33, [.one (.sc (.int .i64)), .one (.row 33 kT33)], false, slices_Insert k, ins33_mut, fun _ _ => by kernel_rfl⟩
/-! felucca/contacts.Add -/
noncomputable def contacts_Add_c : Code := Tryz.f41.body.getD .skip
def contacts_Add (k : Nat) : ((List T33) × T33) → Option ((List T33) × Int) := fun (l, c1) =>
  (slices_Clone_api_Contact_api_Contact k l).bind fun o_1 =>
    (check_Contact k c1).bind fun o_2 =>
      bif o_2 then
        bif decide (4096 ≤ Int.ofNat (List.length o_1)) then
          some ((o_1, 3))
        else
          (contacts_of k c1.1).bind fun o_5 =>
            (ContainsFunc_of k (o_1, o_5)).bind fun o_6 =>
              bif o_6 then
                some ((o_1, 4))
              else
                (ContainsFunc_ov k (o_1, c1)).bind fun o_8 =>
                  bif o_8 then
                    some ((o_1, 5))
                  else
                    (BinarySearchFunc_C k (o_1, c1, ())).bind fun o_10 =>
                      bif o_10.2 then
                        (slices_Insert k o_1 (o_10.1, [c1])).bind fun o_12 =>
                          some ((o_12, 0))
                      else
                        (slices_Insert k o_1 (o_10.1, [c1])).bind fun o_12 =>
                          some ((o_12, 0))
      else
        some ((o_1, 1))
noncomputable def contacts_Add_X : Cx Tryz.prog [.one (.row 33 kT33), .one (.sc (.int .i64))] := ⟨fun k => ⟨[ContainsFunc_of_e k, ContainsFunc_ov_e k, ContainsFunc_r1_e k, slices_Clone_api_Contact_api_Contact_e k, check_Contact_e k, contacts_Compare_e k, contacts_of_e k, BinarySearchFunc_C_e k], [slices_Insert_m k], []⟩, Tryz.f41.ntmps, Tryz.f41.results, []⟩
theorem contacts_Add_eq (k : Nat) (x : (List T33) × T33) : contacts_Add k x = runF contacts_Add_X k contacts_Add_c [.one (.row 33 kT33), .agg lT33] x := by kernel_rfl
noncomputable def contacts_Add_e (k : Nat) : Ent Tryz.prog := ⟨41, [.one (.row 33 kT33), .agg lT33], [.one (.row 33 kT33), .one (.sc (.int .i64))], contacts_Add k, calls_of (X := contacts_Add_X) (k := k) (c := contacts_Add_c) Tryz.func41 (by kernel_rfl) (by kernel_rfl) (by kernel_rfl) (LoopEqs.all (show LoopEqs contacts_Add_X contacts_Add_c contacts_Add_X.L 0 from trivial)) (fun x => contacts_Add_eq k x), fun _ _ => by kernel_rfl⟩
/-! felucca/ranges.Right -/
noncomputable def ranges_Right_c : Code := Tryz.f30.body.getD .skip
def ranges_Right_L0 : Nat → ((List T35) × (List T35) × Int × Int) → Option ((List T35) ⊕ (Bool))
  | 0, _ => none
  | k + 1, (l, t5, t6, t7) =>
  bif decide (t7 < t6) then
    bif decide (0 ≤ t7) then
      bif decide (t7 < Int.ofNat (List.length t5)) then
        (check_Range k (List.getD t5 (Int.toNat t7) (0, 0, 0, 0, 0))).bind fun o_4 =>
          bif o_4 then
            bif decide (0 < t7) then
              bif decide (0 ≤ w64 (t7 - 1)) then
                bif decide (w64 (t7 - 1) < Int.ofNat (List.length l)) then
                  (ranges_Compare k (List.getD l (Int.toNat (w64 (t7 - 1))) (0, 0, 0, 0, 0), List.getD t5 (Int.toNat t7) (0, 0, 0, 0, 0))).bind fun o_9 =>
                    bif decide (0 ≤ o_9) then
                      some (Sum.inr false)
                    else
                      bif decide (0 ≤ w64 (t7 - 1)) then
                        bif decide (w64 (t7 - 1) < Int.ofNat (List.length l)) then
                          (ranges_overlap k (List.getD l (Int.toNat (w64 (t7 - 1))) (0, 0, 0, 0, 0), List.getD t5 (Int.toNat t7) (0, 0, 0, 0, 0))).bind fun o_13 =>
                            bif o_13 then
                              some (Sum.inr false)
                            else
                              ranges_Right_L0 k (l, t5, t6, w64 (t7 + 1))
                        else
                          none
                      else
                        none
                else
                  none
              else
                none
            else
              ranges_Right_L0 k (l, t5, t6, w64 (t7 + 1))
          else
            some (Sum.inr false)
      else
        none
    else
      none
  else
    some (Sum.inl l)
def ranges_Right (k : Nat) : (List T35) → Option (Bool) := fun (l) =>
  (ranges_Right_L0 k (l, l, Int.ofNat (List.length l), 0)).bind fun o_1 =>
    match o_1 with
    | .inl o_2 =>
      bif decide (Int.ofNat (List.length o_2) ≤ 4096) then
        some (true)
      else
        some (false)
    | .inr o_2 =>
      some (o_2)
noncomputable def ranges_Right_X : Cx Tryz.prog [.one (.sc (.bool))] := ⟨fun k => ⟨[check_Range_e k, ranges_Compare_e k, ranges_overlap_e k], [], []⟩, Tryz.f30.ntmps, Tryz.f30.results, [some ⟨0, [(0, .one (.ro kT35)), (5, .one (.ro kT35)), (6, .one (.sc (.int .i64))), (7, .one (.sc (.int .i64)))], [(0, .one (.ro kT35))], ranges_Right_L0⟩]⟩
theorem ranges_Right_L0_eq (k : Nat) (x : (List T35) × (List T35) × Int × Int) : ranges_Right_L0 (k + 1) x = roundF ranges_Right_X k ⟨0, [(0, .one (.ro kT35)), (5, .one (.ro kT35)), (6, .one (.sc (.int .i64))), (7, .one (.sc (.int .i64)))], [(0, .one (.ro kT35))], ranges_Right_L0⟩ 0 (lp ranges_Right_c 0) x := by kernel_rfl
theorem ranges_Right_eq (k : Nat) (x : List T35) : ranges_Right k x = runF ranges_Right_X k ranges_Right_c [.one (.row 35 kT35)] x := by kernel_rfl
noncomputable def ranges_Right_e (k : Nat) : Ent Tryz.prog := ⟨30, [.one (.row 35 kT35)], [.one (.sc (.bool))], ranges_Right k, calls_of (X := ranges_Right_X) (k := k) (c := ranges_Right_c) Tryz.func30 (by kernel_rfl) (by kernel_rfl) (by kernel_rfl) (LoopEqs.all (show LoopEqs ranges_Right_X ranges_Right_c ranges_Right_X.L 0 from ⟨⟨fun _ => rfl, fun k x => ranges_Right_L0_eq k x⟩, trivial⟩)) (fun x => ranges_Right_eq k x), fun _ _ => by kernel_rfl⟩
/-! felucca/plan.Copy -/
noncomputable def plan_Copy_c : Code := Tryz.f10.body.getD .skip
def plan_Copy (k : Nat) : T25 → Option (T25) := fun (p) =>
  (slices_Clone_api_Contact_api_Contact k p.1).bind fun o_1 =>
    (slices_Clone_api_Range_api_Range k p.2.1).bind fun o_2 =>
      some ((o_1, o_2, p.2.2))
noncomputable def plan_Copy_X : Cx Tryz.prog [.agg lT25] := ⟨fun k => ⟨[slices_Clone_api_Contact_api_Contact_e k, slices_Clone_api_Range_api_Range_e k], [], []⟩, Tryz.f10.ntmps, Tryz.f10.results, []⟩
theorem plan_Copy_eq (k : Nat) (x : T25) : plan_Copy k x = runF plan_Copy_X k plan_Copy_c [.agg lT25] x := by kernel_rfl
noncomputable def plan_Copy_e (k : Nat) : Ent Tryz.prog := ⟨10, [.agg lT25], [.agg lT25], plan_Copy k, calls_of (X := plan_Copy_X) (k := k) (c := plan_Copy_c) Tryz.func10 (by kernel_rfl) (by kernel_rfl) (by kernel_rfl) (LoopEqs.all (show LoopEqs plan_Copy_X plan_Copy_c plan_Copy_X.L 0 from trivial)) (fun x => plan_Copy_eq k x), fun _ _ => by kernel_rfl⟩
/-! felucca/plan.past -/
noncomputable def plan_past_c : Code := Tryz.f40.body.getD .skip
def plan_past (k : Nat) : (T37 × Int) → Option (Bool) := fun (d, now) =>
  bif decide (d.1 = 1) then
    bif decide (mx d.2.2.2.2.2.2.1 d.2.2.2.2.2.2.2.2.2.2.2.1 ≤ now) then
      some (true)
    else
      some (false)
  else
    some (false)
noncomputable def plan_past_X : Cx Tryz.prog [.one (.sc (.bool))] := ⟨fun k => ⟨[], [], []⟩, Tryz.f40.ntmps, Tryz.f40.results, []⟩
theorem plan_past_eq (k : Nat) (x : T37 × Int) : plan_past k x = runF plan_past_X k plan_past_c [.agg lT37, .one (.sc (.int .i64))] x := by kernel_rfl
noncomputable def plan_past_e (k : Nat) : Ent Tryz.prog := ⟨40, [.agg lT37, .one (.sc (.int .i64))], [.one (.sc (.bool))], plan_past k, calls_of (X := plan_past_X) (k := k) (c := plan_past_c) Tryz.func40 (by kernel_rfl) (by kernel_rfl) (by kernel_rfl) (LoopEqs.all (show LoopEqs plan_past_X plan_past_c plan_past_X.L 0 from trivial)) (fun x => plan_past_eq k x), fun _ _ => by kernel_rfl⟩
/-! felucca/ranges.Add -/
noncomputable def ranges_Add_c : Code := Tryz.f44.body.getD .skip
def ranges_Add (k : Nat) : ((List T35) × T35) → Option ((List T35) × Int) := fun (l, r) =>
  (slices_Clone_api_Range_api_Range k l).bind fun o_1 =>
    (check_Range k r).bind fun o_2 =>
      bif o_2 then
        bif decide (4096 ≤ Int.ofNat (List.length o_1)) then
          some ((o_1, 3))
        else
          (ContainsFuncR_ov k (o_1, r)).bind fun o_5 =>
            bif o_5 then
              some ((o_1, 5))
            else
              (BinarySearchFunc_R k (o_1, r, ())).bind fun o_7 =>
                bif o_7.2 then
                  (slices_InsertR k o_1 (o_7.1, [r])).bind fun o_9 =>
                    some ((o_9, 0))
                else
                  (slices_InsertR k o_1 (o_7.1, [r])).bind fun o_9 =>
                    some ((o_9, 0))
      else
        some ((o_1, 1))
noncomputable def ranges_Add_X : Cx Tryz.prog [.one (.row 35 kT35), .one (.sc (.int .i64))] := ⟨fun k => ⟨[ContainsFuncR_r2_e k, ContainsFuncR_ov_e k, slices_Clone_api_Range_api_Range_e k, check_Range_e k, ranges_Compare_e k, BinarySearchFunc_R_e k], [slices_InsertR_m k], []⟩, Tryz.f44.ntmps, Tryz.f44.results, []⟩
theorem ranges_Add_eq (k : Nat) (x : (List T35) × T35) : ranges_Add k x = runF ranges_Add_X k ranges_Add_c [.one (.row 35 kT35), .agg lT35] x := by kernel_rfl
noncomputable def ranges_Add_e (k : Nat) : Ent Tryz.prog := ⟨44, [.one (.row 35 kT35), .agg lT35], [.one (.row 35 kT35), .one (.sc (.int .i64))], ranges_Add k, calls_of (X := ranges_Add_X) (k := k) (c := ranges_Add_c) Tryz.func44 (by kernel_rfl) (by kernel_rfl) (by kernel_rfl) (LoopEqs.all (show LoopEqs ranges_Add_X ranges_Add_c ranges_Add_X.L 0 from trivial)) (fun x => ranges_Add_eq k x), fun _ _ => by kernel_rfl⟩
/-! felucca/ranges.Delete -/
noncomputable def ranges_Delete_c : Code := Tryz.f45.body.getD .skip
def ranges_Delete (k : Nat) : ((List T35) × T35) → Option ((List T35) × Int) := fun (l, r) =>
  (slices_Clone_api_Range_api_Range k l).bind fun o_1 =>
    (BinarySearchFunc_R k (o_1, r, ())).bind fun o_2 =>
      bif o_2.2 then
        (slices_DeleteR k o_1 (o_2.1, w64 (o_2.1 + 1))).bind fun o_4 =>
          some ((o_4, 0))
      else
        some ((o_1, 6))
noncomputable def ranges_Delete_X : Cx Tryz.prog [.one (.row 35 kT35), .one (.sc (.int .i64))] := ⟨fun k => ⟨[slices_Clone_api_Range_api_Range_e k, ranges_Compare_e k, BinarySearchFunc_R_e k], [slices_DeleteR_m k], []⟩, Tryz.f45.ntmps, Tryz.f45.results, []⟩
theorem ranges_Delete_eq (k : Nat) (x : (List T35) × T35) : ranges_Delete k x = runF ranges_Delete_X k ranges_Delete_c [.one (.row 35 kT35), .agg lT35] x := by kernel_rfl
noncomputable def ranges_Delete_e (k : Nat) : Ent Tryz.prog := ⟨45, [.one (.row 35 kT35), .agg lT35], [.one (.row 35 kT35), .one (.sc (.int .i64))], ranges_Delete k, calls_of (X := ranges_Delete_X) (k := k) (c := ranges_Delete_c) Tryz.func45 (by kernel_rfl) (by kernel_rfl) (by kernel_rfl) (LoopEqs.all (show LoopEqs ranges_Delete_X ranges_Delete_c ranges_Delete_X.L 0 from trivial)) (fun x => ranges_Delete_eq k x), fun _ _ => by kernel_rfl⟩
/-! felucca/ranges.Change -/
noncomputable def ranges_Change_c : Code := Tryz.f46.body.getD .skip
def ranges_Change (k : Nat) : ((List T35) × T35) → Option ((List T35) × Int) := fun (l, r) =>
  (slices_Clone_api_Range_api_Range k l).bind fun o_1 =>
    (BinarySearchFunc_R k (o_1, r, ())).bind fun o_2 =>
      bif o_2.2 then
        bif decide (r.2.2.2.2 < 0) then
          some ((o_1, 1))
        else
          bif decide (2147483647 < r.2.2.2.2) then
            some ((o_1, 1))
          else
            bif decide (0 ≤ o_2.1) then
              bif decide (o_2.1 < Int.ofNat (List.length o_1)) then
                some ((List.set o_1 (Int.toNat o_2.1) ((List.getD o_1 (Int.toNat o_2.1) (0, 0, 0, 0, 0)).1, (List.getD o_1 (Int.toNat o_2.1) (0, 0, 0, 0, 0)).2.1, (List.getD o_1 (Int.toNat o_2.1) (0, 0, 0, 0, 0)).2.2.1, (List.getD o_1 (Int.toNat o_2.1) (0, 0, 0, 0, 0)).2.2.2.1, r.2.2.2.2), 0))
              else
                none
            else
              none
      else
        bif decide (r.2.2.2.2 < 0) then
          some ((o_1, 1))
        else
          bif decide (2147483647 < r.2.2.2.2) then
            some ((o_1, 1))
          else
            some ((o_1, 6))
noncomputable def ranges_Change_X : Cx Tryz.prog [.one (.row 35 kT35), .one (.sc (.int .i64))] := ⟨fun k => ⟨[slices_Clone_api_Range_api_Range_e k, ranges_Compare_e k, BinarySearchFunc_R_e k], [], []⟩, Tryz.f46.ntmps, Tryz.f46.results, []⟩
theorem ranges_Change_eq (k : Nat) (x : (List T35) × T35) : ranges_Change k x = runF ranges_Change_X k ranges_Change_c [.one (.row 35 kT35), .agg lT35] x := by kernel_rfl
noncomputable def ranges_Change_e (k : Nat) : Ent Tryz.prog := ⟨46, [.one (.row 35 kT35), .agg lT35], [.one (.row 35 kT35), .one (.sc (.int .i64))], ranges_Change k, calls_of (X := ranges_Change_X) (k := k) (c := ranges_Change_c) Tryz.func46 (by kernel_rfl) (by kernel_rfl) (by kernel_rfl) (LoopEqs.all (show LoopEqs ranges_Change_X ranges_Change_c ranges_Change_X.L 0 from trivial)) (fun x => ranges_Change_eq k x), fun _ _ => by kernel_rfl⟩
/-! felucca/ranges.Expire -/
noncomputable def ranges_Expire_c : Code := Tryz.f55.body.getD .skip
def ranges_Expire (k : Nat) : ((List T35) × Int) → Option (List T35) := fun (l, now) =>
  (slices_Clone_api_Range_api_Range k l).bind fun o_1 =>
    (DeleteFuncR_ex k o_1 now).bind fun o_2 =>
      some (o_2)
noncomputable def ranges_Expire_X : Cx Tryz.prog [.one (.row 35 kT35)] := ⟨fun k => ⟨[slices_Clone_api_Range_api_Range_e k], [DeleteFuncR_ex_m k], []⟩, Tryz.f55.ntmps, Tryz.f55.results, []⟩
theorem ranges_Expire_eq (k : Nat) (x : (List T35) × Int) : ranges_Expire k x = runF ranges_Expire_X k ranges_Expire_c [.one (.row 35 kT35), .one (.sc (.int .i64))] x := by kernel_rfl
noncomputable def ranges_Expire_e (k : Nat) : Ent Tryz.prog := ⟨55, [.one (.row 35 kT35), .one (.sc (.int .i64))], [.one (.row 35 kT35)], ranges_Expire k, calls_of (X := ranges_Expire_X) (k := k) (c := ranges_Expire_c) Tryz.func55 (by kernel_rfl) (by kernel_rfl) (by kernel_rfl) (LoopEqs.all (show LoopEqs ranges_Expire_X ranges_Expire_c ranges_Expire_X.L 0 from trivial)) (fun x => ranges_Expire_eq k x), fun _ _ => by kernel_rfl⟩
/-! felucca/plan.Right -/
noncomputable def plan_Right_c : Code := Tryz.f6.body.getD .skip
def plan_Right (k : Nat) : T25 → Option (Bool) := fun (p) =>
  bif decide (p.2.2.1 < 0) then
    some (false)
  else
    bif decide (2147483647 < p.2.2.1) then
      some (false)
    else
      bif decide (p.2.2.2 < 0) then
        some (false)
      else
        bif decide (1099511627776 < p.2.2.2) then
          some (false)
        else
          (ContainsFunc_r1 k (p.1, p)).bind fun o_5 =>
            bif o_5 then
              some (false)
            else
              (ContainsFuncR_r2 k (p.2.1, p)).bind fun o_7 =>
                bif o_7 then
                  some (false)
                else
                  (contacts_Right k p.1).bind fun o_9 =>
                    bif o_9 then
                      (ranges_Right k p.2.1).bind fun o_11 =>
                        bif o_11 then
                          some (true)
                        else
                          some (false)
                    else
                      some (false)
noncomputable def plan_Right_X : Cx Tryz.prog [.one (.sc (.bool))] := ⟨fun k => ⟨[ContainsFunc_of_e k, ContainsFunc_ov_e k, ContainsFunc_r1_e k, ContainsFuncR_r2_e k, ContainsFuncR_ov_e k, contacts_Right_e k, ranges_Right_e k], [], []⟩, Tryz.f6.ntmps, Tryz.f6.results, []⟩
theorem plan_Right_eq (k : Nat) (x : T25) : plan_Right k x = runF plan_Right_X k plan_Right_c [.agg lT25] x := by kernel_rfl
noncomputable def plan_Right_e (k : Nat) : Ent Tryz.prog := ⟨6, [.agg lT25], [.one (.sc (.bool))], plan_Right k, calls_of (X := plan_Right_X) (k := k) (c := plan_Right_c) Tryz.func6 (by kernel_rfl) (by kernel_rfl) (by kernel_rfl) (LoopEqs.all (show LoopEqs plan_Right_X plan_Right_c plan_Right_X.L 0 from trivial)) (fun x => plan_Right_eq k x), fun _ _ => by kernel_rfl⟩
/-! felucca/plan.Apply -/
noncomputable def plan_Apply_c : Code := Tryz.f17.body.getD .skip
def plan_Apply (k : Nat) : (T25 × T37) → Option (T25 × Int) := fun (p, d) =>
  (plan_Copy k p).bind fun o_1 =>
    (direct_Right k d).bind fun o_2 =>
      bif o_2 then
        (plan_past k (d, o_1.2.2.1)).bind fun o_4 =>
          bif o_4 then
            some ((o_1, 7))
          else
            bif d.1 == 1 && d.2.1 == 1 then
              (contacts_Add k (o_1.1, d.2.2.1, d.2.2.2.1, d.2.2.2.2.1, d.2.2.2.2.2.1, d.2.2.2.2.2.2.1, d.2.2.2.2.2.2.2.1)).bind fun o_7 =>
                bif !decide (o_7.2 = 0) then
                  some ((o_1, o_7.2))
                else
                  some (((o_7.1, o_1.2.1, o_1.2.2.1, mn (w64 (o_1.2.2.2 + 1)) 1099511627776), 0))
            else
              bif d.1 == 2 && d.2.1 == 1 then
                (contacts_Delete k (o_1.1, d.2.2.1)).bind fun o_8 =>
                  bif !decide (o_8.2 = 0) then
                    some ((o_1, o_8.2))
                  else
                    some (((o_8.1, o_1.2.1, o_1.2.2.1, mn (w64 (o_1.2.2.2 + 1)) 1099511627776), 0))
              else
                bif d.1 == 3 && d.2.1 == 1 then
                  (contacts_Change k (o_1.1, d.2.2.1, d.2.2.2.2.2.2.2.1)).bind fun o_9 =>
                    bif !decide (o_9.2 = 0) then
                      some ((o_1, o_9.2))
                    else
                      some (((o_9.1, o_1.2.1, o_1.2.2.1, mn (w64 (o_1.2.2.2 + 1)) 1099511627776), 0))
                else
                  bif d.1 == 1 && d.2.1 == 2 then
                    (ranges_Add k (o_1.2.1, d.2.2.2.2.2.2.2.2)).bind fun o_10 =>
                      bif !decide (o_10.2 = 0) then
                        some ((o_1, o_10.2))
                      else
                        some (((o_1.1, o_10.1, o_1.2.2.1, mn (w64 (o_1.2.2.2 + 1)) 1099511627776), 0))
                  else
                    bif d.1 == 2 && d.2.1 == 2 then
                      (ranges_Delete k (o_1.2.1, d.2.2.2.2.2.2.2.2)).bind fun o_11 =>
                        bif !decide (o_11.2 = 0) then
                          some ((o_1, o_11.2))
                        else
                          some (((o_1.1, o_11.1, o_1.2.2.1, mn (w64 (o_1.2.2.2 + 1)) 1099511627776), 0))
                    else
                      (ranges_Change k (o_1.2.1, d.2.2.2.2.2.2.2.2)).bind fun o_11 =>
                        bif !decide (o_11.2 = 0) then
                          some ((o_1, o_11.2))
                        else
                          some (((o_1.1, o_11.1, o_1.2.2.1, mn (w64 (o_1.2.2.2 + 1)) 1099511627776), 0))
      else
        some ((o_1, 1))
noncomputable def plan_Apply_X : Cx Tryz.prog [.agg lT25, .one (.sc (.int .i64))] := ⟨fun k => ⟨[plan_Copy_e k, direct_Right_e k, plan_past_e k, contacts_Add_e k, contacts_Delete_e k, contacts_Change_e k, ranges_Add_e k, ranges_Delete_e k, ranges_Change_e k], [], []⟩, Tryz.f17.ntmps, Tryz.f17.results, []⟩
theorem plan_Apply_eq (k : Nat) (x : T25 × T37) : plan_Apply k x = runF plan_Apply_X k plan_Apply_c [.agg lT25, .agg lT37] x := by kernel_rfl
noncomputable def plan_Apply_e (k : Nat) : Ent Tryz.prog := ⟨17, [.agg lT25, .agg lT37], [.agg lT25, .one (.sc (.int .i64))], plan_Apply k, calls_of (X := plan_Apply_X) (k := k) (c := plan_Apply_c) Tryz.func17 (by kernel_rfl) (by kernel_rfl) (by kernel_rfl) (LoopEqs.all (show LoopEqs plan_Apply_X plan_Apply_c plan_Apply_X.L 0 from trivial)) (fun x => plan_Apply_eq k x), fun _ _ => by kernel_rfl⟩
/-! felucca/plan.Advance -/
noncomputable def plan_Advance_c : Code := Tryz.f19.body.getD .skip
def plan_Advance (k : Nat) : (T25 × Int) → Option (T25 × (List Int) × Int) := fun (p, now) =>
  bif decide (now < p.2.2.1) then
    (plan_Copy k p).bind fun o_2 =>
      some ((o_2, [], 7))
  else
    bif decide (2147483647 < now) then
      (plan_Copy k p).bind fun o_3 =>
        some ((o_3, [], 7))
    else
      (contacts_Expire k (p.1, now)).bind fun o_3 =>
        (ranges_Expire k (p.2.1, now)).bind fun o_4 =>
          bif decide (p.2.2.1 < now) then
            some (((o_3.1, o_4, now, mn (w64 (p.2.2.2 + 1)) 1099511627776), o_3.2, 0))
          else
            some (((o_3.1, o_4, now, p.2.2.2), o_3.2, 0))
noncomputable def plan_Advance_X : Cx Tryz.prog [.agg lT25, .one (.row 3 [.int .i64]), .one (.sc (.int .i64))] := ⟨fun k => ⟨[plan_Copy_e k, contacts_Expire_e k, ranges_Expire_e k], [], []⟩, Tryz.f19.ntmps, Tryz.f19.results, []⟩
theorem plan_Advance_eq (k : Nat) (x : T25 × Int) : plan_Advance k x = runF plan_Advance_X k plan_Advance_c [.agg lT25, .one (.sc (.int .i64))] x := by kernel_rfl
noncomputable def plan_Advance_e (k : Nat) : Ent Tryz.prog := ⟨19, [.agg lT25, .one (.sc (.int .i64))], [.agg lT25, .one (.row 3 [.int .i64]), .one (.sc (.int .i64))], plan_Advance k, calls_of (X := plan_Advance_X) (k := k) (c := plan_Advance_c) Tryz.func19 (by kernel_rfl) (by kernel_rfl) (by kernel_rfl) (LoopEqs.all (show LoopEqs plan_Advance_X plan_Advance_c plan_Advance_X.L 0 from trivial)) (fun x => plan_Advance_eq k x), fun _ _ => by kernel_rfl⟩
/-! felucca/plan.Same -/
noncomputable def plan_Same_c : Code := Tryz.f8.body.getD .skip
def plan_Same (k : Nat) : (T25 × T25) → Option (Bool) := fun (a, b) =>
  bif decide (a.2.2.1 = b.2.2.1) then
    bif decide (a.2.2.2 = b.2.2.2) then
      (contacts_Same k (a.1, b.1)).bind fun o_3 =>
        bif o_3 then
          (ranges_Same k (a.2.1, b.2.1)).bind fun o_5 =>
            bif o_5 then
              some (true)
            else
              some (false)
        else
          some (false)
    else
      some (false)
  else
    some (false)
noncomputable def plan_Same_X : Cx Tryz.prog [.one (.sc (.bool))] := ⟨fun k => ⟨[contacts_Same_e k, ranges_Same_e k], [], []⟩, Tryz.f8.ntmps, Tryz.f8.results, []⟩
theorem plan_Same_eq (k : Nat) (x : T25 × T25) : plan_Same k x = runF plan_Same_X k plan_Same_c [.agg lT25, .agg lT25] x := by kernel_rfl
noncomputable def plan_Same_e (k : Nat) : Ent Tryz.prog := ⟨8, [.agg lT25, .agg lT25], [.one (.sc (.bool))], plan_Same k, calls_of (X := plan_Same_X) (k := k) (c := plan_Same_c) Tryz.func8 (by kernel_rfl) (by kernel_rfl) (by kernel_rfl) (LoopEqs.all (show LoopEqs plan_Same_X plan_Same_c plan_Same_X.L 0 from trivial)) (fun x => plan_Same_eq k x), fun _ _ => by kernel_rfl⟩
/-! felucca/plan.List -/
noncomputable def plan_List_c : Code := Tryz.f14.body.getD .skip
def plan_List_L1 : Nat → ((List T37) × (List T33) × Int × Int) → Option ((List T37) ⊕ (List T37))
  | 0, _ => none
  | k + 1, (l, t21, t22, t23) =>
  bif decide (t23 < t22) then
    bif decide (0 ≤ t23) then
      bif decide (t23 < Int.ofNat (List.length t21)) then
        bif decide ((List.length l + List.length [(1, 1, (List.getD t21 (Int.toNat t23) (0, 0, 0, 0, 0, 0)).1, (List.getD t21 (Int.toNat t23) (0, 0, 0, 0, 0, 0)).2.1, (List.getD t21 (Int.toNat t23) (0, 0, 0, 0, 0, 0)).2.2.1, (List.getD t21 (Int.toNat t23) (0, 0, 0, 0, 0, 0)).2.2.2.1, (List.getD t21 (Int.toNat t23) (0, 0, 0, 0, 0, 0)).2.2.2.2.1, (List.getD t21 (Int.toNat t23) (0, 0, 0, 0, 0, 0)).2.2.2.2.2, 0, 0, 0, 0, 0)]) * 104 ≤ 140737488355328) then
          plan_List_L1 k (l ++ [(1, 1, (List.getD t21 (Int.toNat t23) (0, 0, 0, 0, 0, 0)).1, (List.getD t21 (Int.toNat t23) (0, 0, 0, 0, 0, 0)).2.1, (List.getD t21 (Int.toNat t23) (0, 0, 0, 0, 0, 0)).2.2.1, (List.getD t21 (Int.toNat t23) (0, 0, 0, 0, 0, 0)).2.2.2.1, (List.getD t21 (Int.toNat t23) (0, 0, 0, 0, 0, 0)).2.2.2.2.1, (List.getD t21 (Int.toNat t23) (0, 0, 0, 0, 0, 0)).2.2.2.2.2, 0, 0, 0, 0, 0)], t21, t22, w64 (t23 + 1))
        else
          none
      else
        none
    else
      none
  else
    some (Sum.inl l)
def plan_List_L0 : Nat → (T25 × (List T37) × (List T35) × Int × Int) → Option ((T25 × (List T37)) ⊕ (List T37))
  | 0, _ => none
  | k + 1, (p, l, t8, t9, t10) =>
  bif decide (t10 < t9) then
    bif decide (0 ≤ t10) then
      bif decide (t10 < Int.ofNat (List.length t8)) then
        bif decide ((List.length l + List.length [(1, 2, 0, 0, 0, 0, 0, 0, List.getD t8 (Int.toNat t10) (0, 0, 0, 0, 0))]) * 104 ≤ 140737488355328) then
          plan_List_L0 k (p, l ++ [(1, 2, 0, 0, 0, 0, 0, 0, List.getD t8 (Int.toNat t10) (0, 0, 0, 0, 0))], t8, t9, w64 (t10 + 1))
        else
          none
      else
        none
    else
      none
  else
    some (Sum.inl (p, l))
def plan_List (k : Nat) : T25 → Option (List T37) := fun (p) =>
  (plan_List_L0 k (p, [], p.2.1, Int.ofNat (List.length p.2.1), 0)).bind fun o_1 =>
    match o_1 with
    | .inl o_2 =>
      (plan_List_L1 k (o_2.2, o_2.1.1, Int.ofNat (List.length o_2.1.1), 0)).bind fun o_3 =>
        match o_3 with
        | .inl o_4 =>
          some (o_4)
        | .inr o_4 =>
          some (o_4)
    | .inr o_2 =>
      some (o_2)
noncomputable def plan_List_X : Cx Tryz.prog [.one (.row 37 kT37)] := ⟨fun k => ⟨[], [], []⟩, Tryz.f14.ntmps, Tryz.f14.results, [some ⟨0, [(1, .box 25 trT25), (2, .one (.own 37 kT37)), (8, .one (.ro kT35)), (9, .one (.sc (.int .i64))), (10, .one (.sc (.int .i64)))], [(1, .box 25 trT25), (2, .one (.own 37 kT37))], plan_List_L0⟩, some ⟨2, [(2, .one (.own 37 kT37)), (21, .one (.ro kT33)), (22, .one (.sc (.int .i64))), (23, .one (.sc (.int .i64)))], [(2, .one (.own 37 kT37))], plan_List_L1⟩]⟩
theorem plan_List_L1_eq (k : Nat) (x : (List T37) × (List T33) × Int × Int) : plan_List_L1 (k + 1) x = roundF plan_List_X k ⟨2, [(2, .one (.own 37 kT37)), (21, .one (.ro kT33)), (22, .one (.sc (.int .i64))), (23, .one (.sc (.int .i64)))], [(2, .one (.own 37 kT37))], plan_List_L1⟩ 1 (lp plan_List_c 1) x := by kernel_rfl
theorem plan_List_L0_eq (k : Nat) (x : T25 × (List T37) × (List T35) × Int × Int) : plan_List_L0 (k + 1) x = roundF plan_List_X k ⟨0, [(1, .box 25 trT25), (2, .one (.own 37 kT37)), (8, .one (.ro kT35)), (9, .one (.sc (.int .i64))), (10, .one (.sc (.int .i64)))], [(1, .box 25 trT25), (2, .one (.own 37 kT37))], plan_List_L0⟩ 0 (lp plan_List_c 0) x := by kernel_rfl
theorem plan_List_eq (k : Nat) (x : T25) : plan_List k x = runF plan_List_X k plan_List_c [.agg lT25] x := by kernel_rfl
noncomputable def plan_List_e (k : Nat) : Ent Tryz.prog := ⟨14, [.agg lT25], [.one (.row 37 kT37)], plan_List k, calls_of (X := plan_List_X) (k := k) (c := plan_List_c) Tryz.func14 (by kernel_rfl) (by kernel_rfl) (by kernel_rfl) (LoopEqs.all (show LoopEqs plan_List_X plan_List_c plan_List_X.L 0 from ⟨⟨fun _ => rfl, fun k x => plan_List_L0_eq k x⟩, ⟨⟨fun _ => rfl, fun k x => plan_List_L1_eq k x⟩, trivial⟩⟩)) (fun x => plan_List_eq k x), fun _ _ => by kernel_rfl⟩
/-! felucca/plan.New -/
noncomputable def plan_New_c : Code := Tryz.f22.body.getD .skip
def plan_New (k : Nat) : Unit → Option (T25) := fun _ =>
  some (([], [], 0, 0))
noncomputable def plan_New_X : Cx Tryz.prog [.agg lT25] := ⟨fun k => ⟨[], [], []⟩, Tryz.f22.ntmps, Tryz.f22.results, []⟩
theorem plan_New_eq (k : Nat) (x : Unit) : plan_New k x = runF plan_New_X k plan_New_c [] x := by kernel_rfl
noncomputable def plan_New_e (k : Nat) : Ent Tryz.prog := ⟨22, [], [.agg lT25], plan_New k, calls_of (X := plan_New_X) (k := k) (c := plan_New_c) Tryz.func22 (by kernel_rfl) (by kernel_rfl) (by kernel_rfl) (LoopEqs.all (show LoopEqs plan_New_X plan_New_c plan_New_X.L 0 from trivial)) (fun x => plan_New_eq k x), fun _ _ => by kernel_rfl⟩
/-! felucca/plan.All -/
noncomputable def plan_All_c : Code := Tryz.f11.body.getD .skip
def plan_All_L0 : Nat → ((List T37) × T25 × T25 × T25 × (List T37) × Int × Int) → Option (((List T37) × T25 × T25) ⊕ (T25 × Int × Int))
  | 0, _ => none
  | k + 1, (l, p, t4, q, t14, t15, t16) =>
  bif decide (t16 < t15) then
    bif decide (0 ≤ t16) then
      bif decide (t16 < Int.ofNat (List.length t14)) then
        (plan_Apply k (q, List.getD t14 (Int.toNat t16) (0, 0, 0, 0, 0, 0, 0, 0, 0, 0, 0, 0, 0))).bind fun o_4 =>
          bif !decide (o_4.2 = 0) then
            (plan_Copy k p).bind fun o_6 =>
              some (Sum.inr (o_6, t16, o_4.2))
          else
            plan_All_L0 k (l, p, t4, o_4.1, t14, t15, w64 (t16 + 1))
      else
        none
    else
      none
  else
    some (Sum.inl (l, t4, q))
def plan_All (k : Nat) : (T25 × (List T37)) → Option (T25 × Int × Int) := fun (p, l) =>
  (plan_Copy k p).bind fun o_1 =>
    (plan_All_L0 k (l, p, ([], [], 0, 0), o_1, l, Int.ofNat (List.length l), 0)).bind fun o_2 =>
      match o_2 with
      | .inl o_3 =>
        some ((o_3.2.2, Int.ofNat (List.length o_3.1), 0))
      | .inr o_3 =>
        some (o_3)
noncomputable def plan_All_X : Cx Tryz.prog [.agg lT25, .one (.sc (.int .i64)), .one (.sc (.int .i64))] := ⟨fun k => ⟨[plan_Copy_e k, plan_Apply_e k], [], []⟩, Tryz.f11.ntmps, Tryz.f11.results, [some ⟨0, [(1, .one (.ro kT37)), (2, .box 25 trT25), (4, .box 25 toT25), (7, .box 25 toT25), (14, .one (.ro kT37)), (15, .one (.sc (.int .i64))), (16, .one (.sc (.int .i64)))], [(1, .one (.ro kT37)), (4, .box 25 toT25), (7, .box 25 toT25)], plan_All_L0⟩]⟩
theorem plan_All_L0_eq (k : Nat) (x : (List T37) × T25 × T25 × T25 × (List T37) × Int × Int) : plan_All_L0 (k + 1) x = roundF plan_All_X k ⟨0, [(1, .one (.ro kT37)), (2, .box 25 trT25), (4, .box 25 toT25), (7, .box 25 toT25), (14, .one (.ro kT37)), (15, .one (.sc (.int .i64))), (16, .one (.sc (.int .i64)))], [(1, .one (.ro kT37)), (4, .box 25 toT25), (7, .box 25 toT25)], plan_All_L0⟩ 0 (lp plan_All_c 0) x := by kernel_rfl
theorem plan_All_eq (k : Nat) (x : T25 × (List T37)) : plan_All k x = runF plan_All_X k plan_All_c [.agg lT25, .one (.row 37 kT37)] x := by kernel_rfl
noncomputable def plan_All_e (k : Nat) : Ent Tryz.prog := ⟨11, [.agg lT25, .one (.row 37 kT37)], [.agg lT25, .one (.sc (.int .i64)), .one (.sc (.int .i64))], plan_All k, calls_of (X := plan_All_X) (k := k) (c := plan_All_c) Tryz.func11 (by kernel_rfl) (by kernel_rfl) (by kernel_rfl) (LoopEqs.all (show LoopEqs plan_All_X plan_All_c plan_All_X.L 0 from ⟨⟨fun _ => rfl, fun k x => plan_All_L0_eq k x⟩, trivial⟩)) (fun x => plan_All_eq k x), fun _ _ => by kernel_rfl⟩
/-! felucca/feluccaref03.Range -/
noncomputable def feluccaref03_Range_c : Code := Tryz.f69.body.getD .skip
def feluccaref03_Range (k : Nat) : T35 → Option (Bool) := fun (r) =>
  (feluccaref03_pair k (r.1, r.2.1, r.2.2.1, r.2.2.2.1)).bind fun o_1 =>
    bif o_1 then
      bif decide (0 ≤ r.2.2.2.2) then
        bif decide (r.2.2.2.2 ≤ 2147483647) then
          some (true)
        else
          some (false)
      else
        some (false)
    else
      some (false)
noncomputable def feluccaref03_Range_X : Cx Tryz.prog [.one (.sc (.bool))] := ⟨fun k => ⟨[feluccaref03_pair_e k], [], []⟩, Tryz.f69.ntmps, Tryz.f69.results, []⟩
theorem feluccaref03_Range_eq (k : Nat) (x : T35) : feluccaref03_Range k x = runF feluccaref03_Range_X k feluccaref03_Range_c [.agg lT35] x := by kernel_rfl
noncomputable def feluccaref03_Range_e (k : Nat) : Ent Tryz.prog := ⟨69, [.agg lT35], [.one (.sc (.bool))], feluccaref03_Range k, calls_of (X := feluccaref03_Range_X) (k := k) (c := feluccaref03_Range_c) Tryz.func69 (by kernel_rfl) (by kernel_rfl) (by kernel_rfl) (LoopEqs.all (show LoopEqs feluccaref03_Range_X feluccaref03_Range_c feluccaref03_Range_X.L 0 from trivial)) (fun x => feluccaref03_Range_eq k x), fun _ _ => by kernel_rfl⟩
/-! felucca/feluccaref07.less -/
noncomputable def feluccaref07_less_c : Code := Tryz.f70.body.getD .skip
def feluccaref07_less (k : Nat) : (T35 × T35) → Option (Bool) := fun (a, b) =>
  bif !decide (a.1 = b.1) then
    bif decide (a.1 < b.1) then
      some (true)
    else
      some (false)
  else
    bif !decide (a.2.1 = b.2.1) then
      bif decide (a.2.1 < b.2.1) then
        some (true)
      else
        some (false)
    else
      bif decide (a.2.2.1 < b.2.2.1) then
        some (true)
      else
        some (false)
noncomputable def feluccaref07_less_X : Cx Tryz.prog [.one (.sc (.bool))] := ⟨fun k => ⟨[], [], []⟩, Tryz.f70.ntmps, Tryz.f70.results, []⟩
theorem feluccaref07_less_eq (k : Nat) (x : T35 × T35) : feluccaref07_less k x = runF feluccaref07_less_X k feluccaref07_less_c [.agg lT35, .agg lT35] x := by kernel_rfl
noncomputable def feluccaref07_less_e (k : Nat) : Ent Tryz.prog := ⟨70, [.agg lT35, .agg lT35], [.one (.sc (.bool))], feluccaref07_less k, calls_of (X := feluccaref07_less_X) (k := k) (c := feluccaref07_less_c) Tryz.func70 (by kernel_rfl) (by kernel_rfl) (by kernel_rfl) (LoopEqs.all (show LoopEqs feluccaref07_less_X feluccaref07_less_c feluccaref07_less_X.L 0 from trivial)) (fun x => feluccaref07_less_eq k x), fun _ _ => by kernel_rfl⟩
/-! felucca/feluccaref07.overlap -/
noncomputable def feluccaref07_overlap_c : Code := Tryz.f71.body.getD .skip
def feluccaref07_overlap (k : Nat) : (T35 × T35) → Option (Bool) := fun (a, b) =>
  bif decide (a.1 = b.1) then
    bif decide (a.2.1 = b.2.1) then
      bif decide (a.2.2.1 < b.2.2.2.1) then
        bif decide (b.2.2.1 < a.2.2.2.1) then
          some (true)
        else
          some (false)
      else
        some (false)
    else
      some (false)
  else
    some (false)
noncomputable def feluccaref07_overlap_X : Cx Tryz.prog [.one (.sc (.bool))] := ⟨fun k => ⟨[], [], []⟩, Tryz.f71.ntmps, Tryz.f71.results, []⟩
theorem feluccaref07_overlap_eq (k : Nat) (x : T35 × T35) : feluccaref07_overlap k x = runF feluccaref07_overlap_X k feluccaref07_overlap_c [.agg lT35, .agg lT35] x := by kernel_rfl
noncomputable def feluccaref07_overlap_e (k : Nat) : Ent Tryz.prog := ⟨71, [.agg lT35, .agg lT35], [.one (.sc (.bool))], feluccaref07_overlap k, calls_of (X := feluccaref07_overlap_X) (k := k) (c := feluccaref07_overlap_c) Tryz.func71 (by kernel_rfl) (by kernel_rfl) (by kernel_rfl) (LoopEqs.all (show LoopEqs feluccaref07_overlap_X feluccaref07_overlap_c feluccaref07_overlap_X.L 0 from trivial)) (fun x => feluccaref07_overlap_eq k x), fun _ _ => by kernel_rfl⟩
/-! felucca/feluccaref07.Copy -/
noncomputable def feluccaref07_Copy_c : Code := Tryz.f90.body.getD .skip
def feluccaref07_Copy (k : Nat) : (List T35) → Option (List T35) := fun (l) =>
  bif decide ((0 + List.length l) * 40 ≤ 140737488355328) then
    some (l)
  else
    none
noncomputable def feluccaref07_Copy_X : Cx Tryz.prog [.one (.row 35 kT35)] := ⟨fun k => ⟨[], [], []⟩, Tryz.f90.ntmps, Tryz.f90.results, []⟩
theorem feluccaref07_Copy_eq (k : Nat) (x : List T35) : feluccaref07_Copy k x = runF feluccaref07_Copy_X k feluccaref07_Copy_c [.one (.row 35 kT35)] x := by kernel_rfl
noncomputable def feluccaref07_Copy_e (k : Nat) : Ent Tryz.prog := ⟨90, [.one (.row 35 kT35)], [.one (.row 35 kT35)], feluccaref07_Copy k, calls_of (X := feluccaref07_Copy_X) (k := k) (c := feluccaref07_Copy_c) Tryz.func90 (by kernel_rfl) (by kernel_rfl) (by kernel_rfl) (LoopEqs.all (show LoopEqs feluccaref07_Copy_X feluccaref07_Copy_c feluccaref07_Copy_X.L 0 from trivial)) (fun x => feluccaref07_Copy_eq k x), fun _ _ => by kernel_rfl⟩
/-! felucca/feluccaref07.place -/
noncomputable def feluccaref07_place_c : Code := Tryz.f91.body.getD .skip
def feluccaref07_place_L0 : Nat → ((List T35) × T35 × Int) → Option ((Unit) ⊕ (Int))
  | 0, _ => none
  | k + 1, (l, r, i) =>
  bif decide (i < Int.ofNat (List.length l)) then
    bif decide (0 ≤ i) then
      bif decide (i < Int.ofNat (List.length l)) then
        bif decide ((List.getD l (Int.toNat i) (0, 0, 0, 0, 0)).1 = r.1) then
          bif decide (0 ≤ i) then
            bif decide (i < Int.ofNat (List.length l)) then
              bif decide ((List.getD l (Int.toNat i) (0, 0, 0, 0, 0)).2.1 = r.2.1) then
                bif decide (0 ≤ i) then
                  bif decide (i < Int.ofNat (List.length l)) then
                    bif decide ((List.getD l (Int.toNat i) (0, 0, 0, 0, 0)).2.2.1 = r.2.2.1) then
                      some (Sum.inr i)
                    else
                      feluccaref07_place_L0 k (l, r, w64 (i + 1))
                  else
                    none
                else
                  none
              else
                feluccaref07_place_L0 k (l, r, w64 (i + 1))
            else
              none
          else
            none
        else
          feluccaref07_place_L0 k (l, r, w64 (i + 1))
      else
        none
    else
      none
  else
    some (Sum.inl ())
def feluccaref07_place (k : Nat) : ((List T35) × T35) → Option (Int) := fun (l, r) =>
  (feluccaref07_place_L0 k (l, r, 0)).bind fun o_1 =>
    match o_1 with
    | .inl o_2 =>
      some (-1)
    | .inr o_2 =>
      some (o_2)
noncomputable def feluccaref07_place_X : Cx Tryz.prog [.one (.sc (.int .i64))] := ⟨fun k => ⟨[], [], []⟩, Tryz.f91.ntmps, Tryz.f91.results, [some ⟨0, [(0, .one (.ro kT35)), (3, .box 35 trT35), (5, .one (.sc (.int .i64)))], [], feluccaref07_place_L0⟩]⟩
theorem feluccaref07_place_L0_eq (k : Nat) (x : (List T35) × T35 × Int) : feluccaref07_place_L0 (k + 1) x = roundF feluccaref07_place_X k ⟨0, [(0, .one (.ro kT35)), (3, .box 35 trT35), (5, .one (.sc (.int .i64)))], [], feluccaref07_place_L0⟩ 0 (lp feluccaref07_place_c 0) x := by kernel_rfl
theorem feluccaref07_place_eq (k : Nat) (x : (List T35) × T35) : feluccaref07_place k x = runF feluccaref07_place_X k feluccaref07_place_c [.one (.row 35 kT35), .agg lT35] x := by kernel_rfl
noncomputable def feluccaref07_place_e (k : Nat) : Ent Tryz.prog := ⟨91, [.one (.row 35 kT35), .agg lT35], [.one (.sc (.int .i64))], feluccaref07_place k, calls_of (X := feluccaref07_place_X) (k := k) (c := feluccaref07_place_c) Tryz.func91 (by kernel_rfl) (by kernel_rfl) (by kernel_rfl) (LoopEqs.all (show LoopEqs feluccaref07_place_X feluccaref07_place_c feluccaref07_place_X.L 0 from ⟨⟨fun _ => rfl, fun k x => feluccaref07_place_L0_eq k x⟩, trivial⟩)) (fun x => feluccaref07_place_eq k x), fun _ _ => by kernel_rfl⟩
/-! felucca/feluccaref07.Right -/
noncomputable def feluccaref07_Right_c : Code := Tryz.f32.body.getD .skip
def feluccaref07_Right_L1 : Nat → ((List T35) × Int × Int) → Option (((List T35) × Int) ⊕ (Bool))
  | 0, _ => none
  | k + 1, (l, i, k5) =>
  bif decide (k5 < i) then
    bif decide (0 ≤ k5) then
      bif decide (k5 < Int.ofNat (List.length l)) then
        bif decide (0 ≤ i) then
          bif decide (i < Int.ofNat (List.length l)) then
            (feluccaref07_overlap k (List.getD l (Int.toNat k5) (0, 0, 0, 0, 0), List.getD l (Int.toNat i) (0, 0, 0, 0, 0))).bind fun o_6 =>
              bif o_6 then
                some (Sum.inr false)
              else
                feluccaref07_Right_L1 k (l, i, w64 (k5 + 1))
          else
            none
        else
          none
      else
        none
    else
      none
  else
    some (Sum.inl (l, i))
def feluccaref07_Right_L0 : Nat → ((List T35) × Int) → Option ((List T35) ⊕ (Bool))
  | 0, _ => none
  | k + 1, (l, i) =>
  bif decide (i < Int.ofNat (List.length l)) then
    bif decide (0 ≤ i) then
      bif decide (i < Int.ofNat (List.length l)) then
        (feluccaref03_Range k (List.getD l (Int.toNat i) (0, 0, 0, 0, 0))).bind fun o_4 =>
          bif o_4 then
            bif decide (0 < i) then
              bif decide (0 ≤ w64 (i - 1)) then
                bif decide (w64 (i - 1) < Int.ofNat (List.length l)) then
                  bif decide (0 ≤ i) then
                    bif decide (i < Int.ofNat (List.length l)) then
                      (feluccaref07_less k (List.getD l (Int.toNat (w64 (i - 1))) (0, 0, 0, 0, 0), List.getD l (Int.toNat i) (0, 0, 0, 0, 0))).bind fun o_11 =>
                        bif o_11 then
                          (feluccaref07_Right_L1 k (l, i, 0)).bind fun o_13 =>
                            match o_13 with
                            | .inl o_14 =>
                              feluccaref07_Right_L0 k (o_14.1, w64 (o_14.2 + 1))
                            | .inr o_14 =>
                              some (Sum.inr o_14)
                        else
                          some (Sum.inr false)
                    else
                      none
                  else
                    none
                else
                  none
              else
                none
            else
              (feluccaref07_Right_L1 k (l, i, 0)).bind fun o_7 =>
                match o_7 with
                | .inl o_8 =>
                  feluccaref07_Right_L0 k (o_8.1, w64 (o_8.2 + 1))
                | .inr o_8 =>
                  some (Sum.inr o_8)
          else
            some (Sum.inr false)
      else
        none
    else
      none
  else
    some (Sum.inl l)
def feluccaref07_Right (k : Nat) : (List T35) → Option (Bool) := fun (l) =>
  (feluccaref07_Right_L0 k (l, 0)).bind fun o_1 =>
    match o_1 with
    | .inl o_2 =>
      bif decide (Int.ofNat (List.length o_2) ≤ 4096) then
        some (true)
      else
        some (false)
    | .inr o_2 =>
      some (o_2)
noncomputable def feluccaref07_Right_X : Cx Tryz.prog [.one (.sc (.bool))] := ⟨fun k => ⟨[feluccaref03_Range_e k, feluccaref07_less_e k, feluccaref07_overlap_e k], [], []⟩, Tryz.f32.ntmps, Tryz.f32.results, [some ⟨0, [(0, .one (.ro kT35)), (3, .one (.sc (.int .i64)))], [(0, .one (.ro kT35))], feluccaref07_Right_L0⟩, some ⟨2, [(0, .one (.ro kT35)), (3, .one (.sc (.int .i64))), (5, .one (.sc (.int .i64)))], [(0, .one (.ro kT35)), (3, .one (.sc (.int .i64)))], feluccaref07_Right_L1⟩]⟩
theorem feluccaref07_Right_L1_eq (k : Nat) (x : (List T35) × Int × Int) : feluccaref07_Right_L1 (k + 1) x = roundF feluccaref07_Right_X k ⟨2, [(0, .one (.ro kT35)), (3, .one (.sc (.int .i64))), (5, .one (.sc (.int .i64)))], [(0, .one (.ro kT35)), (3, .one (.sc (.int .i64)))], feluccaref07_Right_L1⟩ 1 (lp feluccaref07_Right_c 1) x := by kernel_rfl
theorem feluccaref07_Right_L0_eq (k : Nat) (x : (List T35) × Int) : feluccaref07_Right_L0 (k + 1) x = roundF feluccaref07_Right_X k ⟨0, [(0, .one (.ro kT35)), (3, .one (.sc (.int .i64)))], [(0, .one (.ro kT35))], feluccaref07_Right_L0⟩ 0 (lp feluccaref07_Right_c 0) x := by kernel_rfl
theorem feluccaref07_Right_eq (k : Nat) (x : List T35) : feluccaref07_Right k x = runF feluccaref07_Right_X k feluccaref07_Right_c [.one (.row 35 kT35)] x := by kernel_rfl
noncomputable def feluccaref07_Right_e (k : Nat) : Ent Tryz.prog := ⟨32, [.one (.row 35 kT35)], [.one (.sc (.bool))], feluccaref07_Right k, calls_of (X := feluccaref07_Right_X) (k := k) (c := feluccaref07_Right_c) Tryz.func32 (by kernel_rfl) (by kernel_rfl) (by kernel_rfl) (LoopEqs.all (show LoopEqs feluccaref07_Right_X feluccaref07_Right_c feluccaref07_Right_X.L 0 from ⟨⟨fun _ => rfl, fun k x => feluccaref07_Right_L0_eq k x⟩, ⟨⟨fun _ => rfl, fun k x => feluccaref07_Right_L1_eq k x⟩, trivial⟩⟩)) (fun x => feluccaref07_Right_eq k x), fun _ _ => by kernel_rfl⟩
/-! felucca/feluccaref07.Same -/
noncomputable def feluccaref07_Same_c : Code := Tryz.f36.body.getD .skip
def feluccaref07_Same_L0 : Nat → ((List T35) × (List T35) × Int) → Option ((Unit) ⊕ (Bool))
  | 0, _ => none
  | k + 1, (a, b, i) =>
  bif decide (i < Int.ofNat (List.length a)) then
    bif decide (0 ≤ i) then
      bif decide (i < Int.ofNat (List.length a)) then
        bif decide (0 ≤ i) then
          bif decide (i < Int.ofNat (List.length b)) then
            bif !((List.getD a (Int.toNat i) (0, 0, 0, 0, 0)).1 == (List.getD b (Int.toNat i) (0, 0, 0, 0, 0)).1 && ((List.getD a (Int.toNat i) (0, 0, 0, 0, 0)).2.1 == (List.getD b (Int.toNat i) (0, 0, 0, 0, 0)).2.1 && ((List.getD a (Int.toNat i) (0, 0, 0, 0, 0)).2.2.1 == (List.getD b (Int.toNat i) (0, 0, 0, 0, 0)).2.2.1 && ((List.getD a (Int.toNat i) (0, 0, 0, 0, 0)).2.2.2.1 == (List.getD b (Int.toNat i) (0, 0, 0, 0, 0)).2.2.2.1 && (List.getD a (Int.toNat i) (0, 0, 0, 0, 0)).2.2.2.2 == (List.getD b (Int.toNat i) (0, 0, 0, 0, 0)).2.2.2.2)))) then
              some (Sum.inr false)
            else
              feluccaref07_Same_L0 k (a, b, w64 (i + 1))
          else
            none
        else
          none
      else
        none
    else
      none
  else
    some (Sum.inl ())
def feluccaref07_Same (k : Nat) : ((List T35) × (List T35)) → Option (Bool) := fun (a, b) =>
  bif !decide (Int.ofNat (List.length a) = Int.ofNat (List.length b)) then
    some (false)
  else
    (feluccaref07_Same_L0 k (a, b, 0)).bind fun o_2 =>
      match o_2 with
      | .inl o_3 =>
        some (true)
      | .inr o_3 =>
        some (o_3)
noncomputable def feluccaref07_Same_X : Cx Tryz.prog [.one (.sc (.bool))] := ⟨fun k => ⟨[], [], []⟩, Tryz.f36.ntmps, Tryz.f36.results, [some ⟨0, [(0, .one (.ro kT35)), (1, .one (.ro kT35)), (5, .one (.sc (.int .i64)))], [], feluccaref07_Same_L0⟩]⟩
theorem feluccaref07_Same_L0_eq (k : Nat) (x : (List T35) × (List T35) × Int) : feluccaref07_Same_L0 (k + 1) x = roundF feluccaref07_Same_X k ⟨0, [(0, .one (.ro kT35)), (1, .one (.ro kT35)), (5, .one (.sc (.int .i64)))], [], feluccaref07_Same_L0⟩ 0 (lp feluccaref07_Same_c 0) x := by kernel_rfl
theorem feluccaref07_Same_eq (k : Nat) (x : (List T35) × (List T35)) : feluccaref07_Same k x = runF feluccaref07_Same_X k feluccaref07_Same_c [.one (.row 35 kT35), .one (.row 35 kT35)] x := by kernel_rfl
noncomputable def feluccaref07_Same_e (k : Nat) : Ent Tryz.prog := ⟨36, [.one (.row 35 kT35), .one (.row 35 kT35)], [.one (.sc (.bool))], feluccaref07_Same k, calls_of (X := feluccaref07_Same_X) (k := k) (c := feluccaref07_Same_c) Tryz.func36 (by kernel_rfl) (by kernel_rfl) (by kernel_rfl) (LoopEqs.all (show LoopEqs feluccaref07_Same_X feluccaref07_Same_c feluccaref07_Same_X.L 0 from ⟨⟨fun _ => rfl, fun k x => feluccaref07_Same_L0_eq k x⟩, trivial⟩)) (fun x => feluccaref07_Same_eq k x), fun _ _ => by kernel_rfl⟩
/-! felucca/feluccaref07.Add -/
noncomputable def feluccaref07_Add_c : Code := Tryz.f49.body.getD .skip
def feluccaref07_Add_L0 : Nat → ((List T35) × T35 × Int × Int) → Option (((List T35) × T35 × Int) ⊕ ((List T35) × Int))
  | 0, _ => none
  | k + 1, (l, r, k6, i) =>
  bif decide (i < Int.ofNat (List.length l)) then
    bif decide (0 ≤ i) then
      bif decide (i < Int.ofNat (List.length l)) then
        (feluccaref07_overlap k (List.getD l (Int.toNat i) (0, 0, 0, 0, 0), r)).bind fun o_4 =>
          bif o_4 then
            (feluccaref07_Copy k l).bind fun o_6 =>
              some (Sum.inr (o_6, 5))
          else
            bif decide (0 ≤ i) then
              bif decide (i < Int.ofNat (List.length l)) then
                (feluccaref07_less k (List.getD l (Int.toNat i) (0, 0, 0, 0, 0), r)).bind fun o_8 =>
                  bif o_8 then
                    feluccaref07_Add_L0 k (l, r, w64 (i + 1), w64 (i + 1))
                  else
                    feluccaref07_Add_L0 k (l, r, k6, w64 (i + 1))
              else
                none
            else
              none
      else
        none
    else
      none
  else
    some (Sum.inl (l, r, k6))
def feluccaref07_Add (k : Nat) : ((List T35) × T35) → Option ((List T35) × Int) := fun (l, r) =>
  (feluccaref03_Range k r).bind fun o_1 =>
    bif o_1 then
      bif decide (4096 ≤ Int.ofNat (List.length l)) then
        (feluccaref07_Copy k l).bind fun o_4 =>
          some ((o_4, 3))
      else
        (feluccaref07_Add_L0 k (l, r, 0, 0)).bind fun o_4 =>
          match o_4 with
          | .inl o_5 =>
            bif decide (0 ≤ o_5.2.2) then
              bif decide (o_5.2.2 ≤ Int.ofNat (List.length o_5.1)) then
                (feluccaref07_Copy k (List.take (Int.toNat o_5.2.2) o_5.1)).bind fun o_8 =>
                  bif decide ((List.length o_8 + List.length [o_5.2.1]) * 40 ≤ 140737488355328) then
                    bif decide (0 ≤ o_5.2.2) then
                      bif decide (o_5.2.2 ≤ Int.ofNat (List.length o_5.1)) then
                        bif decide ((List.length (o_8 ++ [o_5.2.1]) + List.length (List.drop (Int.toNat o_5.2.2) o_5.1)) * 40 ≤ 140737488355328) then
                          some ((o_8 ++ [o_5.2.1] ++ List.drop (Int.toNat o_5.2.2) o_5.1, 0))
                        else
                          none
                      else
                        none
                    else
                      none
                  else
                    none
              else
                none
            else
              none
          | .inr o_5 =>
            some (o_5)
    else
      (feluccaref07_Copy k l).bind fun o_3 =>
        some ((o_3, 1))
noncomputable def feluccaref07_Add_X : Cx Tryz.prog [.one (.row 35 kT35), .one (.sc (.int .i64))] := ⟨fun k => ⟨[feluccaref03_Range_e k, feluccaref07_less_e k, feluccaref07_overlap_e k, feluccaref07_Copy_e k], [], []⟩, Tryz.f49.ntmps, Tryz.f49.results, [some ⟨0, [(0, .one (.ro kT35)), (3, .box 35 trT35), (6, .one (.sc (.int .i64))), (7, .one (.sc (.int .i64)))], [(0, .one (.ro kT35)), (3, .box 35 trT35), (6, .one (.sc (.int .i64)))], feluccaref07_Add_L0⟩]⟩
theorem feluccaref07_Add_L0_eq (k : Nat) (x : (List T35) × T35 × Int × Int) : feluccaref07_Add_L0 (k + 1) x = roundF feluccaref07_Add_X k ⟨0, [(0, .one (.ro kT35)), (3, .box 35 trT35), (6, .one (.sc (.int .i64))), (7, .one (.sc (.int .i64)))], [(0, .one (.ro kT35)), (3, .box 35 trT35), (6, .one (.sc (.int .i64)))], feluccaref07_Add_L0⟩ 0 (lp feluccaref07_Add_c 0) x := by kernel_rfl
theorem feluccaref07_Add_eq (k : Nat) (x : (List T35) × T35) : feluccaref07_Add k x = runF feluccaref07_Add_X k feluccaref07_Add_c [.one (.row 35 kT35), .agg lT35] x := by kernel_rfl
noncomputable def feluccaref07_Add_e (k : Nat) : Ent Tryz.prog := ⟨49, [.one (.row 35 kT35), .agg lT35], [.one (.row 35 kT35), .one (.sc (.int .i64))], feluccaref07_Add k, calls_of (X := feluccaref07_Add_X) (k := k) (c := feluccaref07_Add_c) Tryz.func49 (by kernel_rfl) (by kernel_rfl) (by kernel_rfl) (LoopEqs.all (show LoopEqs feluccaref07_Add_X feluccaref07_Add_c feluccaref07_Add_X.L 0 from ⟨⟨fun _ => rfl, fun k x => feluccaref07_Add_L0_eq k x⟩, trivial⟩)) (fun x => feluccaref07_Add_eq k x), fun _ _ => by kernel_rfl⟩
/-! felucca/feluccaref07.Delete -/
noncomputable def feluccaref07_Delete_c : Code := Tryz.f51.body.getD .skip
def feluccaref07_Delete (k : Nat) : ((List T35) × T35) → Option ((List T35) × Int) := fun (l, r) =>
  (feluccaref07_place k (l, r)).bind fun o_1 =>
    bif decide (o_1 < 0) then
      (feluccaref07_Copy k l).bind fun o_3 =>
        some ((o_3, 6))
    else
      bif decide (0 ≤ o_1) then
        bif decide (o_1 ≤ Int.ofNat (List.length l)) then
          (feluccaref07_Copy k (List.take (Int.toNat o_1) l)).bind fun o_5 =>
            bif decide (0 ≤ w64 (o_1 + 1)) then
              bif decide (w64 (o_1 + 1) ≤ Int.ofNat (List.length l)) then
                bif decide ((List.length o_5 + List.length (List.drop (Int.toNat (w64 (o_1 + 1))) l)) * 40 ≤ 140737488355328) then
                  some ((o_5 ++ List.drop (Int.toNat (w64 (o_1 + 1))) l, 0))
                else
                  none
              else
                none
            else
              none
        else
          none
      else
        none
noncomputable def feluccaref07_Delete_X : Cx Tryz.prog [.one (.row 35 kT35), .one (.sc (.int .i64))] := ⟨fun k => ⟨[feluccaref07_Copy_e k, feluccaref07_place_e k], [], []⟩, Tryz.f51.ntmps, Tryz.f51.results, []⟩
theorem feluccaref07_Delete_eq (k : Nat) (x : (List T35) × T35) : feluccaref07_Delete k x = runF feluccaref07_Delete_X k feluccaref07_Delete_c [.one (.row 35 kT35), .agg lT35] x := by kernel_rfl
noncomputable def feluccaref07_Delete_e (k : Nat) : Ent Tryz.prog := ⟨51, [.one (.row 35 kT35), .agg lT35], [.one (.row 35 kT35), .one (.sc (.int .i64))], feluccaref07_Delete k, calls_of (X := feluccaref07_Delete_X) (k := k) (c := feluccaref07_Delete_c) Tryz.func51 (by kernel_rfl) (by kernel_rfl) (by kernel_rfl) (LoopEqs.all (show LoopEqs feluccaref07_Delete_X feluccaref07_Delete_c feluccaref07_Delete_X.L 0 from trivial)) (fun x => feluccaref07_Delete_eq k x), fun _ _ => by kernel_rfl⟩
/-! felucca/feluccaref07.Change -/
noncomputable def feluccaref07_Change_c : Code := Tryz.f53.body.getD .skip
def feluccaref07_Change (k : Nat) : ((List T35) × T35) → Option ((List T35) × Int) := fun (l, r) =>
  (feluccaref07_Copy k l).bind fun o_1 =>
    bif decide (r.2.2.2.2 < 0) then
      some ((o_1, 1))
    else
      bif decide (2147483647 < r.2.2.2.2) then
        some ((o_1, 1))
      else
        (feluccaref07_place k (l, r)).bind fun o_4 =>
          bif decide (o_4 < 0) then
            some ((o_1, 6))
          else
            bif decide (0 ≤ o_4) then
              bif decide (o_4 < Int.ofNat (List.length o_1)) then
                some ((List.set o_1 (Int.toNat o_4) ((List.getD o_1 (Int.toNat o_4) (0, 0, 0, 0, 0)).1, (List.getD o_1 (Int.toNat o_4) (0, 0, 0, 0, 0)).2.1, (List.getD o_1 (Int.toNat o_4) (0, 0, 0, 0, 0)).2.2.1, (List.getD o_1 (Int.toNat o_4) (0, 0, 0, 0, 0)).2.2.2.1, r.2.2.2.2), 0))
              else
                none
            else
              none
noncomputable def feluccaref07_Change_X : Cx Tryz.prog [.one (.row 35 kT35), .one (.sc (.int .i64))] := ⟨fun k => ⟨[feluccaref07_Copy_e k, feluccaref07_place_e k], [], []⟩, Tryz.f53.ntmps, Tryz.f53.results, []⟩
theorem feluccaref07_Change_eq (k : Nat) (x : (List T35) × T35) : feluccaref07_Change k x = runF feluccaref07_Change_X k feluccaref07_Change_c [.one (.row 35 kT35), .agg lT35] x := by kernel_rfl
noncomputable def feluccaref07_Change_e (k : Nat) : Ent Tryz.prog := ⟨53, [.one (.row 35 kT35), .agg lT35], [.one (.row 35 kT35), .one (.sc (.int .i64))], feluccaref07_Change k, calls_of (X := feluccaref07_Change_X) (k := k) (c := feluccaref07_Change_c) Tryz.func53 (by kernel_rfl) (by kernel_rfl) (by kernel_rfl) (LoopEqs.all (show LoopEqs feluccaref07_Change_X feluccaref07_Change_c feluccaref07_Change_X.L 0 from trivial)) (fun x => feluccaref07_Change_eq k x), fun _ _ => by kernel_rfl⟩
/-! felucca/feluccaref07.Expire -/
noncomputable def feluccaref07_Expire_c : Code := Tryz.f57.body.getD .skip
def feluccaref07_Expire_L0 : Nat → ((List T35) × Int × (List T35) × Int) → Option ((List T35) ⊕ (List T35))
  | 0, _ => none
  | k + 1, (l, now, out5, i) =>
  bif decide (i < Int.ofNat (List.length l)) then
    bif decide (0 ≤ i) then
      bif decide (i < Int.ofNat (List.length l)) then
        bif decide (now < (List.getD l (Int.toNat i) (0, 0, 0, 0, 0)).2.2.2.1) then
          bif decide (0 ≤ i) then
            bif decide (i < Int.ofNat (List.length l)) then
              bif decide ((List.length out5 + List.length [List.getD l (Int.toNat i) (0, 0, 0, 0, 0)]) * 40 ≤ 140737488355328) then
                feluccaref07_Expire_L0 k (l, now, out5 ++ [List.getD l (Int.toNat i) (0, 0, 0, 0, 0)], w64 (i + 1))
              else
                none
            else
              none
          else
            none
        else
          feluccaref07_Expire_L0 k (l, now, out5, w64 (i + 1))
      else
        none
    else
      none
  else
    some (Sum.inl out5)
def feluccaref07_Expire (k : Nat) : ((List T35) × Int) → Option (List T35) := fun (l, now) =>
  (feluccaref07_Expire_L0 k (l, now, [], 0)).bind fun o_1 =>
    match o_1 with
    | .inl o_2 =>
      some (o_2)
    | .inr o_2 =>
      some (o_2)
noncomputable def feluccaref07_Expire_X : Cx Tryz.prog [.one (.row 35 kT35)] := ⟨fun k => ⟨[], [], []⟩, Tryz.f57.ntmps, Tryz.f57.results, [some ⟨0, [(0, .one (.ro kT35)), (1, .one (.sc (.int .i64))), (5, .one (.own 35 kT35)), (6, .one (.sc (.int .i64)))], [(5, .one (.own 35 kT35))], feluccaref07_Expire_L0⟩]⟩
theorem feluccaref07_Expire_L0_eq (k : Nat) (x : (List T35) × Int × (List T35) × Int) : feluccaref07_Expire_L0 (k + 1) x = roundF feluccaref07_Expire_X k ⟨0, [(0, .one (.ro kT35)), (1, .one (.sc (.int .i64))), (5, .one (.own 35 kT35)), (6, .one (.sc (.int .i64)))], [(5, .one (.own 35 kT35))], feluccaref07_Expire_L0⟩ 0 (lp feluccaref07_Expire_c 0) x := by kernel_rfl
theorem feluccaref07_Expire_eq (k : Nat) (x : (List T35) × Int) : feluccaref07_Expire k x = runF feluccaref07_Expire_X k feluccaref07_Expire_c [.one (.row 35 kT35), .one (.sc (.int .i64))] x := by kernel_rfl
noncomputable def feluccaref07_Expire_e (k : Nat) : Ent Tryz.prog := ⟨57, [.one (.row 35 kT35), .one (.sc (.int .i64))], [.one (.row 35 kT35)], feluccaref07_Expire k, calls_of (X := feluccaref07_Expire_X) (k := k) (c := feluccaref07_Expire_c) Tryz.func57 (by kernel_rfl) (by kernel_rfl) (by kernel_rfl) (LoopEqs.all (show LoopEqs feluccaref07_Expire_X feluccaref07_Expire_c feluccaref07_Expire_X.L 0 from ⟨⟨fun _ => rfl, fun k x => feluccaref07_Expire_L0_eq k x⟩, trivial⟩)) (fun x => feluccaref07_Expire_eq k x), fun _ _ => by kernel_rfl⟩
/-! felucca/feluccaref04.noRange -/
noncomputable def feluccaref04_noRange_c : Code := Tryz.f85.body.getD .skip
def feluccaref04_noRange (k : Nat) : T35 → Option (Bool) := fun (r) =>
  bif r.1 == 0 && (r.2.1 == 0 && (r.2.2.1 == 0 && (r.2.2.2.1 == 0 && r.2.2.2.2 == 0))) then
    some (true)
  else
    some (false)
noncomputable def feluccaref04_noRange_X : Cx Tryz.prog [.one (.sc (.bool))] := ⟨fun k => ⟨[], [], []⟩, Tryz.f85.ntmps, Tryz.f85.results, []⟩
theorem feluccaref04_noRange_eq (k : Nat) (x : T35) : feluccaref04_noRange k x = runF feluccaref04_noRange_X k feluccaref04_noRange_c [.agg lT35] x := by kernel_rfl
noncomputable def feluccaref04_noRange_e (k : Nat) : Ent Tryz.prog := ⟨85, [.agg lT35], [.one (.sc (.bool))], feluccaref04_noRange k, calls_of (X := feluccaref04_noRange_X) (k := k) (c := feluccaref04_noRange_c) Tryz.func85 (by kernel_rfl) (by kernel_rfl) (by kernel_rfl) (LoopEqs.all (show LoopEqs feluccaref04_noRange_X feluccaref04_noRange_c feluccaref04_noRange_X.L 0 from trivial)) (fun x => feluccaref04_noRange_eq k x), fun _ _ => by kernel_rfl⟩
/-! felucca/feluccaref04.whole -/
noncomputable def feluccaref04_whole_c : Code := Tryz.f86.body.getD .skip
def feluccaref04_whole (k : Nat) : (Int × Int) → Option (T33) := fun (id, rate) =>
  some ((id, 1, 2, 0, 1, rate))
noncomputable def feluccaref04_whole_X : Cx Tryz.prog [.agg lT33] := ⟨fun k => ⟨[], [], []⟩, Tryz.f86.ntmps, Tryz.f86.results, []⟩
theorem feluccaref04_whole_eq (k : Nat) (x : Int × Int) : feluccaref04_whole k x = runF feluccaref04_whole_X k feluccaref04_whole_c [.one (.sc (.int .i64)), .one (.sc (.int .i64))] x := by kernel_rfl
noncomputable def feluccaref04_whole_e (k : Nat) : Ent Tryz.prog := ⟨86, [.one (.sc (.int .i64)), .one (.sc (.int .i64))], [.agg lT33], feluccaref04_whole k, calls_of (X := feluccaref04_whole_X) (k := k) (c := feluccaref04_whole_c) Tryz.func86 (by kernel_rfl) (by kernel_rfl) (by kernel_rfl) (LoopEqs.all (show LoopEqs feluccaref04_whole_X feluccaref04_whole_c feluccaref04_whole_X.L 0 from trivial)) (fun x => feluccaref04_whole_eq k x), fun _ _ => by kernel_rfl⟩
/-! felucca/feluccaref04.noContact -/
noncomputable def feluccaref04_noContact_c : Code := Tryz.f87.body.getD .skip
def feluccaref04_noContact (k : Nat) : T33 → Option (Bool) := fun (c0) =>
  bif c0.1 == 0 && (c0.2.1 == 0 && (c0.2.2.1 == 0 && (c0.2.2.2.1 == 0 && (c0.2.2.2.2.1 == 0 && c0.2.2.2.2.2 == 0)))) then
    some (true)
  else
    some (false)
noncomputable def feluccaref04_noContact_X : Cx Tryz.prog [.one (.sc (.bool))] := ⟨fun k => ⟨[], [], []⟩, Tryz.f87.ntmps, Tryz.f87.results, []⟩
theorem feluccaref04_noContact_eq (k : Nat) (x : T33) : feluccaref04_noContact k x = runF feluccaref04_noContact_X k feluccaref04_noContact_c [.agg lT33] x := by kernel_rfl
noncomputable def feluccaref04_noContact_e (k : Nat) : Ent Tryz.prog := ⟨87, [.agg lT33], [.one (.sc (.bool))], feluccaref04_noContact k, calls_of (X := feluccaref04_noContact_X) (k := k) (c := feluccaref04_noContact_c) Tryz.func87 (by kernel_rfl) (by kernel_rfl) (by kernel_rfl) (LoopEqs.all (show LoopEqs feluccaref04_noContact_X feluccaref04_noContact_c feluccaref04_noContact_X.L 0 from trivial)) (fun x => feluccaref04_noContact_eq k x), fun _ _ => by kernel_rfl⟩
/-! felucca/feluccaref04.Right -/
noncomputable def feluccaref04_Right_c : Code := Tryz.f47.body.getD .skip
def feluccaref04_Right (k : Nat) : T37 → Option (Bool) := fun (d) =>
  bif decide (d.2.1 = 1) then
    (feluccaref04_noRange k d.2.2.2.2.2.2.2.2).bind fun o_2 =>
      bif o_2 then
        bif decide (d.1 = 1) then
          (feluccaref03_Contact k (d.2.2.1, d.2.2.2.1, d.2.2.2.2.1, d.2.2.2.2.2.1, d.2.2.2.2.2.2.1, d.2.2.2.2.2.2.2.1)).bind fun o_5 =>
            bif o_5 then
              some (true)
            else
              some (false)
        else
          bif decide (d.1 = 2) then
            bif d.2.2.1 == d.2.2.1 && (d.2.2.2.1 == 0 && (d.2.2.2.2.1 == 0 && (d.2.2.2.2.2.1 == 0 && (d.2.2.2.2.2.2.1 == 0 && d.2.2.2.2.2.2.2.1 == 0)))) then
              (feluccaref04_whole k (d.2.2.1, 1)).bind fun o_7 =>
                (feluccaref03_Contact k o_7).bind fun o_8 =>
                  bif o_8 then
                    some (true)
                  else
                    some (false)
            else
              some (false)
          else
            bif decide (d.1 = 3) then
              bif d.2.2.1 == d.2.2.1 && (d.2.2.2.1 == 0 && (d.2.2.2.2.1 == 0 && (d.2.2.2.2.2.1 == 0 && (d.2.2.2.2.2.2.1 == 0 && d.2.2.2.2.2.2.2.1 == d.2.2.2.2.2.2.2.1)))) then
                (feluccaref04_whole k (d.2.2.1, d.2.2.2.2.2.2.2.1)).bind fun o_8 =>
                  (feluccaref03_Contact k o_8).bind fun o_9 =>
                    bif o_9 then
                      some (true)
                    else
                      some (false)
              else
                some (false)
            else
              bif decide (d.2.1 = 2) then
                (feluccaref04_noContact k (d.2.2.1, d.2.2.2.1, d.2.2.2.2.1, d.2.2.2.2.2.1, d.2.2.2.2.2.2.1, d.2.2.2.2.2.2.2.1)).bind fun o_8 =>
                  bif o_8 then
                    bif decide (d.1 = 1) then
                      (feluccaref03_Range k d.2.2.2.2.2.2.2.2).bind fun o_11 =>
                        bif o_11 then
                          some (true)
                        else
                          some (false)
                    else
                      bif decide (d.1 = 2) then
                        bif d.2.2.2.2.2.2.2.2.1 == d.2.2.2.2.2.2.2.2.1 && (d.2.2.2.2.2.2.2.2.2.1 == d.2.2.2.2.2.2.2.2.2.1 && (d.2.2.2.2.2.2.2.2.2.2.1 == d.2.2.2.2.2.2.2.2.2.2.1 && (d.2.2.2.2.2.2.2.2.2.2.2.1 == 0 && d.2.2.2.2.2.2.2.2.2.2.2.2 == 0))) then
                          (feluccaref03_Range k (d.2.2.2.2.2.2.2.2.1, d.2.2.2.2.2.2.2.2.2.1, d.2.2.2.2.2.2.2.2.2.2.1, 2147483647, d.2.2.2.2.2.2.2.2.2.2.2.2)).bind fun o_13 =>
                            bif o_13 then
                              some (true)
                            else
                              some (false)
                        else
                          some (false)
                      else
                        bif decide (d.1 = 3) then
                          bif decide (d.2.2.2.2.2.2.2.2.2.2.2.1 = 0) then
                            (feluccaref03_Range k (d.2.2.2.2.2.2.2.2.1, d.2.2.2.2.2.2.2.2.2.1, d.2.2.2.2.2.2.2.2.2.2.1, 2147483647, d.2.2.2.2.2.2.2.2.2.2.2.2)).bind fun o_14 =>
                              bif o_14 then
                                some (true)
                              else
                                some (false)
                          else
                            some (false)
                        else
                          some (false)
                  else
                    some (false)
              else
                some (false)
      else
        bif decide (d.2.1 = 2) then
          (feluccaref04_noContact k (d.2.2.1, d.2.2.2.1, d.2.2.2.2.1, d.2.2.2.2.2.1, d.2.2.2.2.2.2.1, d.2.2.2.2.2.2.2.1)).bind fun o_5 =>
            bif o_5 then
              bif decide (d.1 = 1) then
                (feluccaref03_Range k d.2.2.2.2.2.2.2.2).bind fun o_8 =>
                  bif o_8 then
                    some (true)
                  else
                    some (false)
              else
                bif decide (d.1 = 2) then
                  bif d.2.2.2.2.2.2.2.2.1 == d.2.2.2.2.2.2.2.2.1 && (d.2.2.2.2.2.2.2.2.2.1 == d.2.2.2.2.2.2.2.2.2.1 && (d.2.2.2.2.2.2.2.2.2.2.1 == d.2.2.2.2.2.2.2.2.2.2.1 && (d.2.2.2.2.2.2.2.2.2.2.2.1 == 0 && d.2.2.2.2.2.2.2.2.2.2.2.2 == 0))) then
                    (feluccaref03_Range k (d.2.2.2.2.2.2.2.2.1, d.2.2.2.2.2.2.2.2.2.1, d.2.2.2.2.2.2.2.2.2.2.1, 2147483647, d.2.2.2.2.2.2.2.2.2.2.2.2)).bind fun o_10 =>
                      bif o_10 then
                        some (true)
                      else
                        some (false)
                  else
                    some (false)
                else
                  bif decide (d.1 = 3) then
                    bif decide (d.2.2.2.2.2.2.2.2.2.2.2.1 = 0) then
                      (feluccaref03_Range k (d.2.2.2.2.2.2.2.2.1, d.2.2.2.2.2.2.2.2.2.1, d.2.2.2.2.2.2.2.2.2.2.1, 2147483647, d.2.2.2.2.2.2.2.2.2.2.2.2)).bind fun o_11 =>
                        bif o_11 then
                          some (true)
                        else
                          some (false)
                    else
                      some (false)
                  else
                    some (false)
            else
              some (false)
        else
          some (false)
  else
    bif decide (d.2.1 = 2) then
      (feluccaref04_noContact k (d.2.2.1, d.2.2.2.1, d.2.2.2.2.1, d.2.2.2.2.2.1, d.2.2.2.2.2.2.1, d.2.2.2.2.2.2.2.1)).bind fun o_3 =>
        bif o_3 then
          bif decide (d.1 = 1) then
            (feluccaref03_Range k d.2.2.2.2.2.2.2.2).bind fun o_6 =>
              bif o_6 then
                some (true)
              else
                some (false)
          else
            bif decide (d.1 = 2) then
              bif d.2.2.2.2.2.2.2.2.1 == d.2.2.2.2.2.2.2.2.1 && (d.2.2.2.2.2.2.2.2.2.1 == d.2.2.2.2.2.2.2.2.2.1 && (d.2.2.2.2.2.2.2.2.2.2.1 == d.2.2.2.2.2.2.2.2.2.2.1 && (d.2.2.2.2.2.2.2.2.2.2.2.1 == 0 && d.2.2.2.2.2.2.2.2.2.2.2.2 == 0))) then
                (feluccaref03_Range k (d.2.2.2.2.2.2.2.2.1, d.2.2.2.2.2.2.2.2.2.1, d.2.2.2.2.2.2.2.2.2.2.1, 2147483647, d.2.2.2.2.2.2.2.2.2.2.2.2)).bind fun o_8 =>
                  bif o_8 then
                    some (true)
                  else
                    some (false)
              else
                some (false)
            else
              bif decide (d.1 = 3) then
                bif decide (d.2.2.2.2.2.2.2.2.2.2.2.1 = 0) then
                  (feluccaref03_Range k (d.2.2.2.2.2.2.2.2.1, d.2.2.2.2.2.2.2.2.2.1, d.2.2.2.2.2.2.2.2.2.2.1, 2147483647, d.2.2.2.2.2.2.2.2.2.2.2.2)).bind fun o_9 =>
                    bif o_9 then
                      some (true)
                    else
                      some (false)
                else
                  some (false)
              else
                some (false)
        else
          some (false)
    else
      some (false)
noncomputable def feluccaref04_Right_X : Cx Tryz.prog [.one (.sc (.bool))] := ⟨fun k => ⟨[feluccaref03_Contact_e k, feluccaref03_Range_e k, feluccaref04_noRange_e k, feluccaref04_whole_e k, feluccaref04_noContact_e k], [], []⟩, Tryz.f47.ntmps, Tryz.f47.results, []⟩
theorem feluccaref04_Right_eq (k : Nat) (x : T37) : feluccaref04_Right k x = runF feluccaref04_Right_X k feluccaref04_Right_c [.agg lT37] x := by kernel_rfl
noncomputable def feluccaref04_Right_e (k : Nat) : Ent Tryz.prog := ⟨47, [.agg lT37], [.one (.sc (.bool))], feluccaref04_Right k, calls_of (X := feluccaref04_Right_X) (k := k) (c := feluccaref04_Right_c) Tryz.func47 (by kernel_rfl) (by kernel_rfl) (by kernel_rfl) (LoopEqs.all (show LoopEqs feluccaref04_Right_X feluccaref04_Right_c feluccaref04_Right_X.L 0 from trivial)) (fun x => feluccaref04_Right_eq k x), fun _ _ => by kernel_rfl⟩
/-! felucca/feluccaref08.Copy -/
noncomputable def feluccaref08_Copy_c : Code := Tryz.f16.body.getD .skip
def feluccaref08_Copy (k : Nat) : T25 → Option (T25) := fun (p) =>
  bif decide ((0 + List.length p.1) * 48 ≤ 140737488355328) then
    bif decide ((0 + List.length p.2.1) * 40 ≤ 140737488355328) then
      some (p)
    else
      none
  else
    none
noncomputable def feluccaref08_Copy_X : Cx Tryz.prog [.agg lT25] := ⟨fun k => ⟨[], [], []⟩, Tryz.f16.ntmps, Tryz.f16.results, []⟩
theorem feluccaref08_Copy_eq (k : Nat) (x : T25) : feluccaref08_Copy k x = runF feluccaref08_Copy_X k feluccaref08_Copy_c [.agg lT25] x := by kernel_rfl
noncomputable def feluccaref08_Copy_e (k : Nat) : Ent Tryz.prog := ⟨16, [.agg lT25], [.agg lT25], feluccaref08_Copy k, calls_of (X := feluccaref08_Copy_X) (k := k) (c := feluccaref08_Copy_c) Tryz.func16 (by kernel_rfl) (by kernel_rfl) (by kernel_rfl) (LoopEqs.all (show LoopEqs feluccaref08_Copy_X feluccaref08_Copy_c feluccaref08_Copy_X.L 0 from trivial)) (fun x => feluccaref08_Copy_eq k x), fun _ _ => by kernel_rfl⟩
/-! felucca/feluccaref08.Same -/
noncomputable def feluccaref08_Same_c : Code := Tryz.f9.body.getD .skip
def feluccaref08_Same (k : Nat) : (T25 × T25) → Option (Bool) := fun (a, b) =>
  (feluccaref06_Same k (a.1, b.1)).bind fun o_1 =>
    bif o_1 then
      (feluccaref07_Same k (a.2.1, b.2.1)).bind fun o_3 =>
        bif o_3 then
          bif decide (a.2.2.1 = b.2.2.1) then
            bif decide (a.2.2.2 = b.2.2.2) then
              some (true)
            else
              some (false)
          else
            some (false)
        else
          some (false)
    else
      (feluccaref07_Same k (a.2.1, b.2.1)).bind fun o_3 =>
        bif o_3 then
          some (false)
        else
          some (false)
noncomputable def feluccaref08_Same_X : Cx Tryz.prog [.one (.sc (.bool))] := ⟨fun k => ⟨[feluccaref06_Same_e k, feluccaref07_Same_e k], [], []⟩, Tryz.f9.ntmps, Tryz.f9.results, []⟩
theorem feluccaref08_Same_eq (k : Nat) (x : T25 × T25) : feluccaref08_Same k x = runF feluccaref08_Same_X k feluccaref08_Same_c [.agg lT25, .agg lT25] x := by kernel_rfl
noncomputable def feluccaref08_Same_e (k : Nat) : Ent Tryz.prog := ⟨9, [.agg lT25, .agg lT25], [.one (.sc (.bool))], feluccaref08_Same k, calls_of (X := feluccaref08_Same_X) (k := k) (c := feluccaref08_Same_c) Tryz.func9 (by kernel_rfl) (by kernel_rfl) (by kernel_rfl) (LoopEqs.all (show LoopEqs feluccaref08_Same_X feluccaref08_Same_c feluccaref08_Same_X.L 0 from trivial)) (fun x => feluccaref08_Same_eq k x), fun _ _ => by kernel_rfl⟩
/-! felucca/feluccaref08.Right -/
noncomputable def feluccaref08_Right_c : Code := Tryz.f7.body.getD .skip
def feluccaref08_Right_L1 : Nat → (T25 × Int) → Option ((Unit) ⊕ (Bool))
  | 0, _ => none
  | k + 1, (p, i) =>
  bif decide (i < Int.ofNat (List.length p.2.1)) then
    bif decide (0 ≤ i) then
      bif decide (i < Int.ofNat (List.length p.2.1)) then
        bif decide ((List.getD p.2.1 (Int.toNat i) (0, 0, 0, 0, 0)).2.2.2.1 ≤ p.2.2.1) then
          some (Sum.inr false)
        else
          feluccaref08_Right_L1 k (p, w64 (i + 1))
      else
        none
    else
      none
  else
    some (Sum.inl ())
def feluccaref08_Right_L0 : Nat → (T25 × Int) → Option ((T25) ⊕ (Bool))
  | 0, _ => none
  | k + 1, (p, i) =>
  bif decide (i < Int.ofNat (List.length p.1)) then
    bif decide (0 ≤ i) then
      bif decide (i < Int.ofNat (List.length p.1)) then
        bif decide ((List.getD p.1 (Int.toNat i) (0, 0, 0, 0, 0, 0)).2.2.2.2.1 ≤ p.2.2.1) then
          some (Sum.inr false)
        else
          feluccaref08_Right_L0 k (p, w64 (i + 1))
      else
        none
    else
      none
  else
    some (Sum.inl p)
def feluccaref08_Right (k : Nat) : T25 → Option (Bool) := fun (p) =>
  (feluccaref06_Right k p.1).bind fun o_1 =>
    bif o_1 then
      (feluccaref07_Right k p.2.1).bind fun o_3 =>
        bif o_3 then
          bif decide (p.2.2.1 < 0) then
            some (false)
          else
            bif decide (2147483647 < p.2.2.1) then
              some (false)
            else
              bif decide (p.2.2.2 < 0) then
                some (false)
              else
                bif decide (1099511627776 < p.2.2.2) then
                  some (false)
                else
                  (feluccaref08_Right_L0 k (p, 0)).bind fun o_9 =>
                    match o_9 with
                    | .inl o_10 =>
                      (feluccaref08_Right_L1 k (o_10, 0)).bind fun o_11 =>
                        match o_11 with
                        | .inl o_12 =>
                          some (true)
                        | .inr o_12 =>
                          some (o_12)
                    | .inr o_10 =>
                      some (o_10)
        else
          some (false)
    else
      (feluccaref07_Right k p.2.1).bind fun o_3 =>
        bif o_3 then
          some (false)
        else
          some (false)
noncomputable def feluccaref08_Right_X : Cx Tryz.prog [.one (.sc (.bool))] := ⟨fun k => ⟨[feluccaref06_Right_e k, feluccaref07_Right_e k], [], []⟩, Tryz.f7.ntmps, Tryz.f7.results, [some ⟨0, [(1, .box 25 trT25), (5, .one (.sc (.int .i64)))], [(1, .box 25 trT25)], feluccaref08_Right_L0⟩, some ⟨2, [(1, .box 25 trT25), (6, .one (.sc (.int .i64)))], [], feluccaref08_Right_L1⟩]⟩
theorem feluccaref08_Right_L1_eq (k : Nat) (x : T25 × Int) : feluccaref08_Right_L1 (k + 1) x = roundF feluccaref08_Right_X k ⟨2, [(1, .box 25 trT25), (6, .one (.sc (.int .i64)))], [], feluccaref08_Right_L1⟩ 1 (lp feluccaref08_Right_c 1) x := by kernel_rfl
theorem feluccaref08_Right_L0_eq (k : Nat) (x : T25 × Int) : feluccaref08_Right_L0 (k + 1) x = roundF feluccaref08_Right_X k ⟨0, [(1, .box 25 trT25), (5, .one (.sc (.int .i64)))], [(1, .box 25 trT25)], feluccaref08_Right_L0⟩ 0 (lp feluccaref08_Right_c 0) x := by kernel_rfl
theorem feluccaref08_Right_eq (k : Nat) (x : T25) : feluccaref08_Right k x = runF feluccaref08_Right_X k feluccaref08_Right_c [.agg lT25] x := by kernel_rfl
noncomputable def feluccaref08_Right_e (k : Nat) : Ent Tryz.prog := ⟨7, [.agg lT25], [.one (.sc (.bool))], feluccaref08_Right k, calls_of (X := feluccaref08_Right_X) (k := k) (c := feluccaref08_Right_c) Tryz.func7 (by kernel_rfl) (by kernel_rfl) (by kernel_rfl) (LoopEqs.all (show LoopEqs feluccaref08_Right_X feluccaref08_Right_c feluccaref08_Right_X.L 0 from ⟨⟨fun _ => rfl, fun k x => feluccaref08_Right_L0_eq k x⟩, ⟨⟨fun _ => rfl, fun k x => feluccaref08_Right_L1_eq k x⟩, trivial⟩⟩)) (fun x => feluccaref08_Right_eq k x), fun _ _ => by kernel_rfl⟩
/-! felucca/feluccaref08.Apply -/
noncomputable def feluccaref08_Apply_c : Code := Tryz.f18.body.getD .skip
def feluccaref08_Apply (k : Nat) : (T25 × T37) → Option (T25 × Int) := fun (p, d) =>
  (feluccaref08_Copy k p).bind fun o_1 =>
    (feluccaref04_Right k d).bind fun o_2 =>
      bif o_2 then
        bif decide (d.2.1 = 1) then
          bif decide (d.1 = 1) then
            bif decide (d.2.2.2.2.2.2.1 ≤ p.2.2.1) then
              some ((o_1, 7))
            else
              bif decide (d.1 = 1) then
                (feluccaref06_Add k (p.1, d.2.2.1, d.2.2.2.1, d.2.2.2.2.1, d.2.2.2.2.2.1, d.2.2.2.2.2.2.1, d.2.2.2.2.2.2.2.1)).bind fun o_8 =>
                  bif !decide (o_8.2 = 0) then
                    some ((o_1, o_8.2))
                  else
                    (feluccaref08_Copy k (o_8.1, p.2.1, p.2.2.1, mn (w64 (p.2.2.2 + 1)) 1099511627776)).bind fun o_10 =>
                      some ((o_10, 0))
              else
                bif decide (d.1 = 2) then
                  (feluccaref06_Delete k (p.1, d.2.2.1)).bind fun o_9 =>
                    bif !decide (o_9.2 = 0) then
                      some ((o_1, o_9.2))
                    else
                      (feluccaref08_Copy k (o_9.1, p.2.1, p.2.2.1, mn (w64 (p.2.2.2 + 1)) 1099511627776)).bind fun o_11 =>
                        some ((o_11, 0))
                else
                  (feluccaref06_Change k (p.1, d.2.2.1, d.2.2.2.2.2.2.2.1)).bind fun o_9 =>
                    bif !decide (o_9.2 = 0) then
                      some ((o_1, o_9.2))
                    else
                      (feluccaref08_Copy k (o_9.1, p.2.1, p.2.2.1, mn (w64 (p.2.2.2 + 1)) 1099511627776)).bind fun o_11 =>
                        some ((o_11, 0))
          else
            bif decide (d.1 = 1) then
              (feluccaref06_Add k (p.1, d.2.2.1, d.2.2.2.1, d.2.2.2.2.1, d.2.2.2.2.2.1, d.2.2.2.2.2.2.1, d.2.2.2.2.2.2.2.1)).bind fun o_7 =>
                bif !decide (o_7.2 = 0) then
                  some ((o_1, o_7.2))
                else
                  (feluccaref08_Copy k (o_7.1, p.2.1, p.2.2.1, mn (w64 (p.2.2.2 + 1)) 1099511627776)).bind fun o_9 =>
                    some ((o_9, 0))
            else
              bif decide (d.1 = 2) then
                (feluccaref06_Delete k (p.1, d.2.2.1)).bind fun o_8 =>
                  bif !decide (o_8.2 = 0) then
                    some ((o_1, o_8.2))
                  else
                    (feluccaref08_Copy k (o_8.1, p.2.1, p.2.2.1, mn (w64 (p.2.2.2 + 1)) 1099511627776)).bind fun o_10 =>
                      some ((o_10, 0))
              else
                (feluccaref06_Change k (p.1, d.2.2.1, d.2.2.2.2.2.2.2.1)).bind fun o_8 =>
                  bif !decide (o_8.2 = 0) then
                    some ((o_1, o_8.2))
                  else
                    (feluccaref08_Copy k (o_8.1, p.2.1, p.2.2.1, mn (w64 (p.2.2.2 + 1)) 1099511627776)).bind fun o_10 =>
                      some ((o_10, 0))
        else
          bif decide (d.1 = 1) then
            bif decide (d.2.2.2.2.2.2.2.2.2.2.2.1 ≤ p.2.2.1) then
              some ((o_1, 7))
            else
              bif decide (d.1 = 1) then
                (feluccaref07_Add k (p.2.1, d.2.2.2.2.2.2.2.2)).bind fun o_8 =>
                  bif !decide (o_8.2 = 0) then
                    some ((o_1, o_8.2))
                  else
                    (feluccaref08_Copy k (p.1, o_8.1, p.2.2.1, mn (w64 (p.2.2.2 + 1)) 1099511627776)).bind fun o_10 =>
                      some ((o_10, 0))
              else
                bif decide (d.1 = 2) then
                  (feluccaref07_Delete k (p.2.1, d.2.2.2.2.2.2.2.2)).bind fun o_9 =>
                    bif !decide (o_9.2 = 0) then
                      some ((o_1, o_9.2))
                    else
                      (feluccaref08_Copy k (p.1, o_9.1, p.2.2.1, mn (w64 (p.2.2.2 + 1)) 1099511627776)).bind fun o_11 =>
                        some ((o_11, 0))
                else
                  (feluccaref07_Change k (p.2.1, d.2.2.2.2.2.2.2.2)).bind fun o_9 =>
                    bif !decide (o_9.2 = 0) then
                      some ((o_1, o_9.2))
                    else
                      (feluccaref08_Copy k (p.1, o_9.1, p.2.2.1, mn (w64 (p.2.2.2 + 1)) 1099511627776)).bind fun o_11 =>
                        some ((o_11, 0))
          else
            bif decide (d.1 = 1) then
              (feluccaref07_Add k (p.2.1, d.2.2.2.2.2.2.2.2)).bind fun o_7 =>
                bif !decide (o_7.2 = 0) then
                  some ((o_1, o_7.2))
                else
                  (feluccaref08_Copy k (p.1, o_7.1, p.2.2.1, mn (w64 (p.2.2.2 + 1)) 1099511627776)).bind fun o_9 =>
                    some ((o_9, 0))
            else
              bif decide (d.1 = 2) then
                (feluccaref07_Delete k (p.2.1, d.2.2.2.2.2.2.2.2)).bind fun o_8 =>
                  bif !decide (o_8.2 = 0) then
                    some ((o_1, o_8.2))
                  else
                    (feluccaref08_Copy k (p.1, o_8.1, p.2.2.1, mn (w64 (p.2.2.2 + 1)) 1099511627776)).bind fun o_10 =>
                      some ((o_10, 0))
              else
                (feluccaref07_Change k (p.2.1, d.2.2.2.2.2.2.2.2)).bind fun o_8 =>
                  bif !decide (o_8.2 = 0) then
                    some ((o_1, o_8.2))
                  else
                    (feluccaref08_Copy k (p.1, o_8.1, p.2.2.1, mn (w64 (p.2.2.2 + 1)) 1099511627776)).bind fun o_10 =>
                      some ((o_10, 0))
      else
        some ((o_1, 1))
noncomputable def feluccaref08_Apply_X : Cx Tryz.prog [.agg lT25, .one (.sc (.int .i64))] := ⟨fun k => ⟨[feluccaref08_Copy_e k, feluccaref04_Right_e k, feluccaref06_Add_e k, feluccaref07_Add_e k, feluccaref06_Delete_e k, feluccaref07_Delete_e k, feluccaref06_Change_e k, feluccaref07_Change_e k], [], []⟩, Tryz.f18.ntmps, Tryz.f18.results, []⟩
theorem feluccaref08_Apply_eq (k : Nat) (x : T25 × T37) : feluccaref08_Apply k x = runF feluccaref08_Apply_X k feluccaref08_Apply_c [.agg lT25, .agg lT37] x := by kernel_rfl
noncomputable def feluccaref08_Apply_e (k : Nat) : Ent Tryz.prog := ⟨18, [.agg lT25, .agg lT37], [.agg lT25, .one (.sc (.int .i64))], feluccaref08_Apply k, calls_of (X := feluccaref08_Apply_X) (k := k) (c := feluccaref08_Apply_c) Tryz.func18 (by kernel_rfl) (by kernel_rfl) (by kernel_rfl) (LoopEqs.all (show LoopEqs feluccaref08_Apply_X feluccaref08_Apply_c feluccaref08_Apply_X.L 0 from trivial)) (fun x => feluccaref08_Apply_eq k x), fun _ _ => by kernel_rfl⟩
/-! felucca/feluccaref08.Advance -/
noncomputable def feluccaref08_Advance_c : Code := Tryz.f20.body.getD .skip
def feluccaref08_Advance (k : Nat) : (T25 × Int) → Option (T25 × (List Int) × Int) := fun (p, now) =>
  bif decide (now < p.2.2.1) then
    (feluccaref08_Copy k p).bind fun o_2 =>
      some ((o_2, [], 7))
  else
    bif decide (2147483647 < now) then
      (feluccaref08_Copy k p).bind fun o_3 =>
        some ((o_3, [], 7))
    else
      (feluccaref06_Expire k (p.1, now)).bind fun o_3 =>
        (feluccaref07_Expire k (p.2.1, now)).bind fun o_4 =>
          bif !decide (now = p.2.2.1) then
            some (((o_3.1, o_4, now, mn (w64 (p.2.2.2 + 1)) 1099511627776), o_3.2, 0))
          else
            some (((o_3.1, o_4, now, p.2.2.2), o_3.2, 0))
noncomputable def feluccaref08_Advance_X : Cx Tryz.prog [.agg lT25, .one (.row 3 [.int .i64]), .one (.sc (.int .i64))] := ⟨fun k => ⟨[feluccaref08_Copy_e k, feluccaref06_Expire_e k, feluccaref07_Expire_e k], [], []⟩, Tryz.f20.ntmps, Tryz.f20.results, []⟩
theorem feluccaref08_Advance_eq (k : Nat) (x : T25 × Int) : feluccaref08_Advance k x = runF feluccaref08_Advance_X k feluccaref08_Advance_c [.agg lT25, .one (.sc (.int .i64))] x := by kernel_rfl
noncomputable def feluccaref08_Advance_e (k : Nat) : Ent Tryz.prog := ⟨20, [.agg lT25, .one (.sc (.int .i64))], [.agg lT25, .one (.row 3 [.int .i64]), .one (.sc (.int .i64))], feluccaref08_Advance k, calls_of (X := feluccaref08_Advance_X) (k := k) (c := feluccaref08_Advance_c) Tryz.func20 (by kernel_rfl) (by kernel_rfl) (by kernel_rfl) (LoopEqs.all (show LoopEqs feluccaref08_Advance_X feluccaref08_Advance_c feluccaref08_Advance_X.L 0 from trivial)) (fun x => feluccaref08_Advance_eq k x), fun _ _ => by kernel_rfl⟩
/-! felucca/feluccaref08.All -/
noncomputable def feluccaref08_All_c : Code := Tryz.f12.body.getD .skip
def feluccaref08_All_L0 : Nat → ((List T37) × T25 × T25 × T25 × Int) → Option (((List T37) × T25 × T25) ⊕ (T25 × Int × Int))
  | 0, _ => none
  | k + 1, (l, p, t4, out7, i) =>
  bif decide (i < Int.ofNat (List.length l)) then
    bif decide (0 ≤ i) then
      bif decide (i < Int.ofNat (List.length l)) then
        (feluccaref08_Apply k (out7, List.getD l (Int.toNat i) (0, 0, 0, 0, 0, 0, 0, 0, 0, 0, 0, 0, 0))).bind fun o_4 =>
          bif !decide (o_4.2 = 0) then
            (feluccaref08_Copy k p).bind fun o_6 =>
              some (Sum.inr (o_6, i, o_4.2))
          else
            feluccaref08_All_L0 k (l, p, t4, o_4.1, w64 (i + 1))
      else
        none
    else
      none
  else
    some (Sum.inl (l, t4, out7))
def feluccaref08_All (k : Nat) : (T25 × (List T37)) → Option (T25 × Int × Int) := fun (p, l) =>
  (feluccaref08_Copy k p).bind fun o_1 =>
    (feluccaref08_All_L0 k (l, p, ([], [], 0, 0), o_1, 0)).bind fun o_2 =>
      match o_2 with
      | .inl o_3 =>
        some ((o_3.2.2, Int.ofNat (List.length o_3.1), 0))
      | .inr o_3 =>
        some (o_3)
noncomputable def feluccaref08_All_X : Cx Tryz.prog [.agg lT25, .one (.sc (.int .i64)), .one (.sc (.int .i64))] := ⟨fun k => ⟨[feluccaref08_Copy_e k, feluccaref08_Apply_e k], [], []⟩, Tryz.f12.ntmps, Tryz.f12.results, [some ⟨0, [(1, .one (.ro kT37)), (2, .box 25 trT25), (4, .box 25 toT25), (7, .box 25 toT25), (8, .one (.sc (.int .i64)))], [(1, .one (.ro kT37)), (4, .box 25 toT25), (7, .box 25 toT25)], feluccaref08_All_L0⟩]⟩
theorem feluccaref08_All_L0_eq (k : Nat) (x : (List T37) × T25 × T25 × T25 × Int) : feluccaref08_All_L0 (k + 1) x = roundF feluccaref08_All_X k ⟨0, [(1, .one (.ro kT37)), (2, .box 25 trT25), (4, .box 25 toT25), (7, .box 25 toT25), (8, .one (.sc (.int .i64)))], [(1, .one (.ro kT37)), (4, .box 25 toT25), (7, .box 25 toT25)], feluccaref08_All_L0⟩ 0 (lp feluccaref08_All_c 0) x := by kernel_rfl
theorem feluccaref08_All_eq (k : Nat) (x : T25 × (List T37)) : feluccaref08_All k x = runF feluccaref08_All_X k feluccaref08_All_c [.agg lT25, .one (.row 37 kT37)] x := by kernel_rfl
noncomputable def feluccaref08_All_e (k : Nat) : Ent Tryz.prog := ⟨12, [.agg lT25, .one (.row 37 kT37)], [.agg lT25, .one (.sc (.int .i64)), .one (.sc (.int .i64))], feluccaref08_All k, calls_of (X := feluccaref08_All_X) (k := k) (c := feluccaref08_All_c) Tryz.func12 (by kernel_rfl) (by kernel_rfl) (by kernel_rfl) (LoopEqs.all (show LoopEqs feluccaref08_All_X feluccaref08_All_c feluccaref08_All_X.L 0 from ⟨⟨fun _ => rfl, fun k x => feluccaref08_All_L0_eq k x⟩, trivial⟩)) (fun x => feluccaref08_All_eq k x), fun _ _ => by kernel_rfl⟩
/-! felucca/feluccaref08.List -/
noncomputable def feluccaref08_List_c : Code := Tryz.f15.body.getD .skip
def feluccaref08_List_L1 : Nat → (T25 × (List T37) × Int) → Option ((List T37) ⊕ (List T37))
  | 0, _ => none
  | k + 1, (p, out3, i) =>
  bif decide (i < Int.ofNat (List.length p.1)) then
    bif decide (0 ≤ i) then
      bif decide (i < Int.ofNat (List.length p.1)) then
        bif decide ((List.length out3 + List.length [(1, 1, (List.getD p.1 (Int.toNat i) (0, 0, 0, 0, 0, 0)).1, (List.getD p.1 (Int.toNat i) (0, 0, 0, 0, 0, 0)).2.1, (List.getD p.1 (Int.toNat i) (0, 0, 0, 0, 0, 0)).2.2.1, (List.getD p.1 (Int.toNat i) (0, 0, 0, 0, 0, 0)).2.2.2.1, (List.getD p.1 (Int.toNat i) (0, 0, 0, 0, 0, 0)).2.2.2.2.1, (List.getD p.1 (Int.toNat i) (0, 0, 0, 0, 0, 0)).2.2.2.2.2, 0, 0, 0, 0, 0)]) * 104 ≤ 140737488355328) then
          feluccaref08_List_L1 k (p, out3 ++ [(1, 1, (List.getD p.1 (Int.toNat i) (0, 0, 0, 0, 0, 0)).1, (List.getD p.1 (Int.toNat i) (0, 0, 0, 0, 0, 0)).2.1, (List.getD p.1 (Int.toNat i) (0, 0, 0, 0, 0, 0)).2.2.1, (List.getD p.1 (Int.toNat i) (0, 0, 0, 0, 0, 0)).2.2.2.1, (List.getD p.1 (Int.toNat i) (0, 0, 0, 0, 0, 0)).2.2.2.2.1, (List.getD p.1 (Int.toNat i) (0, 0, 0, 0, 0, 0)).2.2.2.2.2, 0, 0, 0, 0, 0)], w64 (i + 1))
        else
          none
      else
        none
    else
      none
  else
    some (Sum.inl out3)
def feluccaref08_List_L0 : Nat → (T25 × (List T37) × Int) → Option ((T25 × (List T37)) ⊕ (List T37))
  | 0, _ => none
  | k + 1, (p, out3, i) =>
  bif decide (i < Int.ofNat (List.length p.2.1)) then
    bif decide (0 ≤ i) then
      bif decide (i < Int.ofNat (List.length p.2.1)) then
        bif decide ((List.length out3 + List.length [(1, 2, 0, 0, 0, 0, 0, 0, List.getD p.2.1 (Int.toNat i) (0, 0, 0, 0, 0))]) * 104 ≤ 140737488355328) then
          feluccaref08_List_L0 k (p, out3 ++ [(1, 2, 0, 0, 0, 0, 0, 0, List.getD p.2.1 (Int.toNat i) (0, 0, 0, 0, 0))], w64 (i + 1))
        else
          none
      else
        none
    else
      none
  else
    some (Sum.inl (p, out3))
def feluccaref08_List (k : Nat) : T25 → Option (List T37) := fun (p) =>
  (feluccaref08_List_L0 k (p, [], 0)).bind fun o_1 =>
    match o_1 with
    | .inl o_2 =>
      (feluccaref08_List_L1 k (o_2.1, o_2.2, 0)).bind fun o_3 =>
        match o_3 with
        | .inl o_4 =>
          some (o_4)
        | .inr o_4 =>
          some (o_4)
    | .inr o_2 =>
      some (o_2)
noncomputable def feluccaref08_List_X : Cx Tryz.prog [.one (.row 37 kT37)] := ⟨fun k => ⟨[], [], []⟩, Tryz.f15.ntmps, Tryz.f15.results, [some ⟨0, [(1, .box 25 trT25), (3, .one (.own 37 kT37)), (4, .one (.sc (.int .i64)))], [(1, .box 25 trT25), (3, .one (.own 37 kT37))], feluccaref08_List_L0⟩, some ⟨2, [(1, .box 25 trT25), (3, .one (.own 37 kT37)), (5, .one (.sc (.int .i64)))], [(3, .one (.own 37 kT37))], feluccaref08_List_L1⟩]⟩
theorem feluccaref08_List_L1_eq (k : Nat) (x : T25 × (List T37) × Int) : feluccaref08_List_L1 (k + 1) x = roundF feluccaref08_List_X k ⟨2, [(1, .box 25 trT25), (3, .one (.own 37 kT37)), (5, .one (.sc (.int .i64)))], [(3, .one (.own 37 kT37))], feluccaref08_List_L1⟩ 1 (lp feluccaref08_List_c 1) x := by kernel_rfl
theorem feluccaref08_List_L0_eq (k : Nat) (x : T25 × (List T37) × Int) : feluccaref08_List_L0 (k + 1) x = roundF feluccaref08_List_X k ⟨0, [(1, .box 25 trT25), (3, .one (.own 37 kT37)), (4, .one (.sc (.int .i64)))], [(1, .box 25 trT25), (3, .one (.own 37 kT37))], feluccaref08_List_L0⟩ 0 (lp feluccaref08_List_c 0) x := by kernel_rfl
theorem feluccaref08_List_eq (k : Nat) (x : T25) : feluccaref08_List k x = runF feluccaref08_List_X k feluccaref08_List_c [.agg lT25] x := by kernel_rfl
noncomputable def feluccaref08_List_e (k : Nat) : Ent Tryz.prog := ⟨15, [.agg lT25], [.one (.row 37 kT37)], feluccaref08_List k, calls_of (X := feluccaref08_List_X) (k := k) (c := feluccaref08_List_c) Tryz.func15 (by kernel_rfl) (by kernel_rfl) (by kernel_rfl) (LoopEqs.all (show LoopEqs feluccaref08_List_X feluccaref08_List_c feluccaref08_List_X.L 0 from ⟨⟨fun _ => rfl, fun k x => feluccaref08_List_L0_eq k x⟩, ⟨⟨fun _ => rfl, fun k x => feluccaref08_List_L1_eq k x⟩, trivial⟩⟩)) (fun x => feluccaref08_List_eq k x), fun _ _ => by kernel_rfl⟩
/-! felucca/feluccaref05.Same -/
noncomputable def feluccaref05_Same_c : Code := Tryz.f13.body.getD .skip
def feluccaref05_Same_L0 : Nat → ((List T37) × (List T37) × Int) → Option ((Unit) ⊕ (Bool))
  | 0, _ => none
  | k + 1, (a, b, i) =>
  bif decide (i < Int.ofNat (List.length a)) then
    bif decide (0 ≤ i) then
      bif decide (i < Int.ofNat (List.length a)) then
        bif decide (0 ≤ i) then
          bif decide (i < Int.ofNat (List.length b)) then
            bif !((List.getD a (Int.toNat i) (0, 0, 0, 0, 0, 0, 0, 0, 0, 0, 0, 0, 0)).1 == (List.getD b (Int.toNat i) (0, 0, 0, 0, 0, 0, 0, 0, 0, 0, 0, 0, 0)).1 && ((List.getD a (Int.toNat i) (0, 0, 0, 0, 0, 0, 0, 0, 0, 0, 0, 0, 0)).2.1 == (List.getD b (Int.toNat i) (0, 0, 0, 0, 0, 0, 0, 0, 0, 0, 0, 0, 0)).2.1 && ((List.getD a (Int.toNat i) (0, 0, 0, 0, 0, 0, 0, 0, 0, 0, 0, 0, 0)).2.2.1 == (List.getD b (Int.toNat i) (0, 0, 0, 0, 0, 0, 0, 0, 0, 0, 0, 0, 0)).2.2.1 && ((List.getD a (Int.toNat i) (0, 0, 0, 0, 0, 0, 0, 0, 0, 0, 0, 0, 0)).2.2.2.1 == (List.getD b (Int.toNat i) (0, 0, 0, 0, 0, 0, 0, 0, 0, 0, 0, 0, 0)).2.2.2.1 && ((List.getD a (Int.toNat i) (0, 0, 0, 0, 0, 0, 0, 0, 0, 0, 0, 0, 0)).2.2.2.2.1 == (List.getD b (Int.toNat i) (0, 0, 0, 0, 0, 0, 0, 0, 0, 0, 0, 0, 0)).2.2.2.2.1 && ((List.getD a (Int.toNat i) (0, 0, 0, 0, 0, 0, 0, 0, 0, 0, 0, 0, 0)).2.2.2.2.2.1 == (List.getD b (Int.toNat i) (0, 0, 0, 0, 0, 0, 0, 0, 0, 0, 0, 0, 0)).2.2.2.2.2.1 && ((List.getD a (Int.toNat i) (0, 0, 0, 0, 0, 0, 0, 0, 0, 0, 0, 0, 0)).2.2.2.2.2.2.1 == (List.getD b (Int.toNat i) (0, 0, 0, 0, 0, 0, 0, 0, 0, 0, 0, 0, 0)).2.2.2.2.2.2.1 && (List.getD a (Int.toNat i) (0, 0, 0, 0, 0, 0, 0, 0, 0, 0, 0, 0, 0)).2.2.2.2.2.2.2.1 == (List.getD b (Int.toNat i) (0, 0, 0, 0, 0, 0, 0, 0, 0, 0, 0, 0, 0)).2.2.2.2.2.2.2.1)))) && ((List.getD a (Int.toNat i) (0, 0, 0, 0, 0, 0, 0, 0, 0, 0, 0, 0, 0)).2.2.2.2.2.2.2.2.1 == (List.getD b (Int.toNat i) (0, 0, 0, 0, 0, 0, 0, 0, 0, 0, 0, 0, 0)).2.2.2.2.2.2.2.2.1 && ((List.getD a (Int.toNat i) (0, 0, 0, 0, 0, 0, 0, 0, 0, 0, 0, 0, 0)).2.2.2.2.2.2.2.2.2.1 == (List.getD b (Int.toNat i) (0, 0, 0, 0, 0, 0, 0, 0, 0, 0, 0, 0, 0)).2.2.2.2.2.2.2.2.2.1 && ((List.getD a (Int.toNat i) (0, 0, 0, 0, 0, 0, 0, 0, 0, 0, 0, 0, 0)).2.2.2.2.2.2.2.2.2.2.1 == (List.getD b (Int.toNat i) (0, 0, 0, 0, 0, 0, 0, 0, 0, 0, 0, 0, 0)).2.2.2.2.2.2.2.2.2.2.1 && ((List.getD a (Int.toNat i) (0, 0, 0, 0, 0, 0, 0, 0, 0, 0, 0, 0, 0)).2.2.2.2.2.2.2.2.2.2.2.1 == (List.getD b (Int.toNat i) (0, 0, 0, 0, 0, 0, 0, 0, 0, 0, 0, 0, 0)).2.2.2.2.2.2.2.2.2.2.2.1 && (List.getD a (Int.toNat i) (0, 0, 0, 0, 0, 0, 0, 0, 0, 0, 0, 0, 0)).2.2.2.2.2.2.2.2.2.2.2.2 == (List.getD b (Int.toNat i) (0, 0, 0, 0, 0, 0, 0, 0, 0, 0, 0, 0, 0)).2.2.2.2.2.2.2.2.2.2.2.2))))))) then
              some (Sum.inr false)
            else
              feluccaref05_Same_L0 k (a, b, w64 (i + 1))
          else
            none
        else
          none
      else
        none
    else
      none
  else
    some (Sum.inl ())
def feluccaref05_Same (k : Nat) : ((List T37) × (List T37)) → Option (Bool) := fun (a, b) =>
  bif !decide (Int.ofNat (List.length a) = Int.ofNat (List.length b)) then
    some (false)
  else
    (feluccaref05_Same_L0 k (a, b, 0)).bind fun o_2 =>
      match o_2 with
      | .inl o_3 =>
        some (true)
      | .inr o_3 =>
        some (o_3)
noncomputable def feluccaref05_Same_X : Cx Tryz.prog [.one (.sc (.bool))] := ⟨fun k => ⟨[], [], []⟩, Tryz.f13.ntmps, Tryz.f13.results, [some ⟨0, [(0, .one (.ro kT37)), (1, .one (.ro kT37)), (5, .one (.sc (.int .i64)))], [], feluccaref05_Same_L0⟩]⟩
theorem feluccaref05_Same_L0_eq (k : Nat) (x : (List T37) × (List T37) × Int) : feluccaref05_Same_L0 (k + 1) x = roundF feluccaref05_Same_X k ⟨0, [(0, .one (.ro kT37)), (1, .one (.ro kT37)), (5, .one (.sc (.int .i64)))], [], feluccaref05_Same_L0⟩ 0 (lp feluccaref05_Same_c 0) x := by kernel_rfl
theorem feluccaref05_Same_eq (k : Nat) (x : (List T37) × (List T37)) : feluccaref05_Same k x = runF feluccaref05_Same_X k feluccaref05_Same_c [.one (.row 37 kT37), .one (.row 37 kT37)] x := by kernel_rfl
noncomputable def feluccaref05_Same_e (k : Nat) : Ent Tryz.prog := ⟨13, [.one (.row 37 kT37), .one (.row 37 kT37)], [.one (.sc (.bool))], feluccaref05_Same k, calls_of (X := feluccaref05_Same_X) (k := k) (c := feluccaref05_Same_c) Tryz.func13 (by kernel_rfl) (by kernel_rfl) (by kernel_rfl) (LoopEqs.all (show LoopEqs feluccaref05_Same_X feluccaref05_Same_c feluccaref05_Same_X.L 0 from ⟨⟨fun _ => rfl, fun k x => feluccaref05_Same_L0_eq k x⟩, trivial⟩)) (fun x => feluccaref05_Same_eq k x), fun _ _ => by kernel_rfl⟩
end Go.Proofs.YtggikacbelogcaaGreat.Ex
