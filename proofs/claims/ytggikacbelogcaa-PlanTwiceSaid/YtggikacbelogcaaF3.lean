import Derived.Test.YtggikacbelogcaaF1
import Derived.Test.YtggikacbelogcaaForms
import Derived.Test.YtggikacbelogcaaIns
import Derived.Test.YtggikacbelogcaaInsR
import Derived.Test.YtggikacbelogcaaDelR
namespace Go.Proofs.Ytggikacbelogcaa.Ex
open Go
set_option linter.unusedVariables false
set_option maxHeartbeats 0
abbrev T56 := Int × Int × Int × Int × Int
abbrev lT56 : List LK := [.sc (.int .i64), .sc (.int .i64), .sc (.int .i64), .sc (.int .i64), .sc (.int .i64)]
abbrev toT56 : List TL := [.sc (.int .i64), .sc (.int .i64), .sc (.int .i64), .sc (.int .i64), .sc (.int .i64)]
abbrev trT56 : List TL := [.sc (.int .i64), .sc (.int .i64), .sc (.int .i64), .sc (.int .i64), .sc (.int .i64)]
abbrev kT56 : List SK := [.int .i64, .int .i64, .int .i64, .int .i64, .int .i64]
abbrev T58 := Int × Int × Int × Int × Int × Int × Int × Int × Int × Int × Int × Int × Int
abbrev lT58 : List LK := [.sc (.int .i64), .sc (.int .i64), .sc (.int .i64), .sc (.int .i64), .sc (.int .i64), .sc (.int .i64), .sc (.int .i64), .sc (.int .i64), .sc (.int .i64), .sc (.int .i64), .sc (.int .i64), .sc (.int .i64), .sc (.int .i64)]
abbrev toT58 : List TL := [.sc (.int .i64), .sc (.int .i64), .sc (.int .i64), .sc (.int .i64), .sc (.int .i64), .sc (.int .i64), .sc (.int .i64), .sc (.int .i64), .sc (.int .i64), .sc (.int .i64), .sc (.int .i64), .sc (.int .i64), .sc (.int .i64)]
abbrev trT58 : List TL := [.sc (.int .i64), .sc (.int .i64), .sc (.int .i64), .sc (.int .i64), .sc (.int .i64), .sc (.int .i64), .sc (.int .i64), .sc (.int .i64), .sc (.int .i64), .sc (.int .i64), .sc (.int .i64), .sc (.int .i64), .sc (.int .i64)]
abbrev kT58 : List SK := [.int .i64, .int .i64, .int .i64, .int .i64, .int .i64, .int .i64, .int .i64, .int .i64, .int .i64, .int .i64, .int .i64, .int .i64, .int .i64]
abbrev T52 := (List T28) × (List T56) × Int × Int
abbrev lT52 : List LK := [.row 28 kT28, .row 56 kT56, .sc (.int .i64), .sc (.int .i64)]
abbrev toT52 : List TL := [.own 28 kT28, .own 56 kT56, .sc (.int .i64), .sc (.int .i64)]
abbrev trT52 : List TL := [.ro kT28, .ro kT56, .sc (.int .i64), .sc (.int .i64)]
abbrev kT52 : List SK := [.row kT28, .row kT56, .int .i64, .int .i64]
/-! felucca/check.Range -/
noncomputable def check_Range_c : Code := Try.f87.body.getD .skip
def check_Range (k : Nat) : T56 → Option (Bool) := fun (r) =>
  (check_way k (r.1, r.2.1)).bind fun o_1 =>
    bif o_1 then
      (check_span k (r.2.2.1, r.2.2.2.1)).bind fun o_3 =>
        bif o_3 then
          (num_In k (r.2.2.2.2, 0, 2147483647)).bind fun o_5 =>
            bif o_5 then
              some (true)
            else
              some (false)
        else
          some (false)
    else
      some (false)
noncomputable def check_Range_X : Cx Try.prog [.one (.sc (.bool))] := ⟨fun k => ⟨[check_way_e k, check_span_e k, num_In_e k], [], []⟩, Try.f87.ntmps, Try.f87.results, []⟩
theorem check_Range_eq (k : Nat) (x : T56) : check_Range k x = runF check_Range_X k check_Range_c [.agg lT56] x := by kernel_rfl
noncomputable def check_Range_e (k : Nat) : Ent Try.prog := ⟨87, [.agg lT56], [.one (.sc (.bool))], check_Range k, calls_of (X := check_Range_X) (k := k) (c := check_Range_c) Try.func87 (by kernel_rfl) (by kernel_rfl) (by kernel_rfl) (LoopEqs.all (show LoopEqs check_Range_X check_Range_c check_Range_X.L 0 from trivial)) (fun x => check_Range_eq k x), fun _ _ => by kernel_rfl⟩
/-! felucca/direct.may -/
noncomputable def direct_may_c : Code := Try.f91.body.getD .skip
def direct_may (k : Nat) : T58 → Option (Bool) := fun (d) =>
  bif !decide (d.1 = 1) then
    bif decide (d.1 = 3) then
      bif decide (d.2.1 = 1) then
        (check_Contact k (d.2.2.1, 1, 2, 0, 1, d.2.2.2.2.2.2.2.1)).bind fun o_4 =>
          bif o_4 then
            some (true)
          else
            some (false)
      else
        (check_Range k (d.2.2.2.2.2.2.2.2.1, d.2.2.2.2.2.2.2.2.2.1, d.2.2.2.2.2.2.2.2.2.2.1, 2147483647, d.2.2.2.2.2.2.2.2.2.2.2.2)).bind fun o_4 =>
          bif o_4 then
            some (true)
          else
            some (false)
    else
      bif decide (d.2.1 = 1) then
        (check_Contact k (d.2.2.1, 1, 2, 0, 1, mx d.2.2.2.2.2.2.2.1 1)).bind fun o_4 =>
          bif o_4 then
            some (true)
          else
            some (false)
      else
        (check_Range k (d.2.2.2.2.2.2.2.2.1, d.2.2.2.2.2.2.2.2.2.1, d.2.2.2.2.2.2.2.2.2.2.1, 2147483647, d.2.2.2.2.2.2.2.2.2.2.2.2)).bind fun o_4 =>
          bif o_4 then
            some (true)
          else
            some (false)
  else
    bif decide (d.2.1 = 1) then
      (check_Contact k (d.2.2.1, d.2.2.2.1, d.2.2.2.2.1, d.2.2.2.2.2.1, d.2.2.2.2.2.2.1, d.2.2.2.2.2.2.2.1)).bind fun o_3 =>
        bif o_3 then
          some (true)
        else
          some (false)
    else
      (check_Range k d.2.2.2.2.2.2.2.2).bind fun o_3 =>
        bif o_3 then
          some (true)
        else
          some (false)
noncomputable def direct_may_X : Cx Try.prog [.one (.sc (.bool))] := ⟨fun k => ⟨[check_Contact_e k, check_Range_e k], [], []⟩, Try.f91.ntmps, Try.f91.results, []⟩
theorem direct_may_eq (k : Nat) (x : T58) : direct_may k x = runF direct_may_X k direct_may_c [.agg lT58] x := by kernel_rfl
noncomputable def direct_may_e (k : Nat) : Ent Try.prog := ⟨91, [.agg lT58], [.one (.sc (.bool))], direct_may k, calls_of (X := direct_may_X) (k := k) (c := direct_may_c) Try.func91 (by kernel_rfl) (by kernel_rfl) (by kernel_rfl) (LoopEqs.all (show LoopEqs direct_may_X direct_may_c direct_may_X.L 0 from trivial)) (fun x => direct_may_eq k x), fun _ _ => by kernel_rfl⟩
/-! felucca/direct.Right -/
noncomputable def direct_Right_c : Code := Try.f68.body.getD .skip
def direct_Right (k : Nat) : T58 → Option (Bool) := fun (d) =>
  bif decide (d.1 = 1) && decide (d.2.1 = 1) then
    bif d.1 == d.1 && (d.2.1 == d.2.1 && (d.2.2.1 == d.2.2.1 && (d.2.2.2.1 == d.2.2.2.1 && (d.2.2.2.2.1 == d.2.2.2.2.1 && (d.2.2.2.2.2.1 == d.2.2.2.2.2.1 && (d.2.2.2.2.2.2.1 == d.2.2.2.2.2.2.1 && d.2.2.2.2.2.2.2.1 == d.2.2.2.2.2.2.2.1)))) && (0 == d.2.2.2.2.2.2.2.2.1 && (0 == d.2.2.2.2.2.2.2.2.2.1 && (0 == d.2.2.2.2.2.2.2.2.2.2.1 && (0 == d.2.2.2.2.2.2.2.2.2.2.2.1 && 0 == d.2.2.2.2.2.2.2.2.2.2.2.2)))))) then
      (direct_may k d).bind fun o_3 =>
        bif o_3 then
          some (true)
        else
          some (false)
    else
      some (false)
  else
    bif decide (d.1 = 2) && decide (d.2.1 = 1) then
      bif d.1 == d.1 && (d.2.1 == d.2.1 && (d.2.2.1 == d.2.2.1 && (0 == d.2.2.2.1 && (0 == d.2.2.2.2.1 && (0 == d.2.2.2.2.2.1 && (0 == d.2.2.2.2.2.2.1 && 0 == d.2.2.2.2.2.2.2.1)))) && (0 == d.2.2.2.2.2.2.2.2.1 && (0 == d.2.2.2.2.2.2.2.2.2.1 && (0 == d.2.2.2.2.2.2.2.2.2.2.1 && (0 == d.2.2.2.2.2.2.2.2.2.2.2.1 && 0 == d.2.2.2.2.2.2.2.2.2.2.2.2)))))) then
        (direct_may k d).bind fun o_4 =>
          bif o_4 then
            some (true)
          else
            some (false)
      else
        some (false)
    else
      bif decide (d.1 = 3) && decide (d.2.1 = 1) then
        bif d.1 == d.1 && (d.2.1 == d.2.1 && (d.2.2.1 == d.2.2.1 && (0 == d.2.2.2.1 && (0 == d.2.2.2.2.1 && (0 == d.2.2.2.2.2.1 && (0 == d.2.2.2.2.2.2.1 && d.2.2.2.2.2.2.2.1 == d.2.2.2.2.2.2.2.1)))) && (0 == d.2.2.2.2.2.2.2.2.1 && (0 == d.2.2.2.2.2.2.2.2.2.1 && (0 == d.2.2.2.2.2.2.2.2.2.2.1 && (0 == d.2.2.2.2.2.2.2.2.2.2.2.1 && 0 == d.2.2.2.2.2.2.2.2.2.2.2.2)))))) then
          (direct_may k d).bind fun o_5 =>
            bif o_5 then
              some (true)
            else
              some (false)
        else
          some (false)
      else
        bif decide (d.1 = 1) && decide (d.2.1 = 2) then
          bif d.1 == d.1 && (d.2.1 == d.2.1 && (0 == d.2.2.1 && (0 == d.2.2.2.1 && (0 == d.2.2.2.2.1 && (0 == d.2.2.2.2.2.1 && (0 == d.2.2.2.2.2.2.1 && 0 == d.2.2.2.2.2.2.2.1)))) && (d.2.2.2.2.2.2.2.2.1 == d.2.2.2.2.2.2.2.2.1 && (d.2.2.2.2.2.2.2.2.2.1 == d.2.2.2.2.2.2.2.2.2.1 && (d.2.2.2.2.2.2.2.2.2.2.1 == d.2.2.2.2.2.2.2.2.2.2.1 && (d.2.2.2.2.2.2.2.2.2.2.2.1 == d.2.2.2.2.2.2.2.2.2.2.2.1 && d.2.2.2.2.2.2.2.2.2.2.2.2 == d.2.2.2.2.2.2.2.2.2.2.2.2)))))) then
            (direct_may k d).bind fun o_6 =>
              bif o_6 then
                some (true)
              else
                some (false)
          else
            some (false)
        else
          bif decide (d.1 = 2) && decide (d.2.1 = 2) then
            bif d.1 == d.1 && (d.2.1 == d.2.1 && (0 == d.2.2.1 && (0 == d.2.2.2.1 && (0 == d.2.2.2.2.1 && (0 == d.2.2.2.2.2.1 && (0 == d.2.2.2.2.2.2.1 && 0 == d.2.2.2.2.2.2.2.1)))) && (d.2.2.2.2.2.2.2.2.1 == d.2.2.2.2.2.2.2.2.1 && (d.2.2.2.2.2.2.2.2.2.1 == d.2.2.2.2.2.2.2.2.2.1 && (d.2.2.2.2.2.2.2.2.2.2.1 == d.2.2.2.2.2.2.2.2.2.2.1 && (0 == d.2.2.2.2.2.2.2.2.2.2.2.1 && 0 == d.2.2.2.2.2.2.2.2.2.2.2.2)))))) then
              (direct_may k d).bind fun o_7 =>
                bif o_7 then
                  some (true)
                else
                  some (false)
            else
              some (false)
          else
            bif decide (d.1 = 3) && decide (d.2.1 = 2) then
              bif d.1 == d.1 && (d.2.1 == d.2.1 && (0 == d.2.2.1 && (0 == d.2.2.2.1 && (0 == d.2.2.2.2.1 && (0 == d.2.2.2.2.2.1 && (0 == d.2.2.2.2.2.2.1 && 0 == d.2.2.2.2.2.2.2.1)))) && (d.2.2.2.2.2.2.2.2.1 == d.2.2.2.2.2.2.2.2.1 && (d.2.2.2.2.2.2.2.2.2.1 == d.2.2.2.2.2.2.2.2.2.1 && (d.2.2.2.2.2.2.2.2.2.2.1 == d.2.2.2.2.2.2.2.2.2.2.1 && (0 == d.2.2.2.2.2.2.2.2.2.2.2.1 && d.2.2.2.2.2.2.2.2.2.2.2.2 == d.2.2.2.2.2.2.2.2.2.2.2.2)))))) then
                (direct_may k d).bind fun o_8 =>
                  bif o_8 then
                    some (true)
                  else
                    some (false)
              else
                some (false)
            else
              some (false)
noncomputable def direct_Right_X : Cx Try.prog [.one (.sc (.bool))] := ⟨fun k => ⟨[direct_may_e k], [], [hkMapC fC, hkMap fT, hkClo [fClo1, fClo2, fClo3, fClo4, fClo5, fClo6], hkRow Try.prog]⟩, Try.f68.ntmps, Try.f68.results, [none]⟩
theorem direct_Right_eq (k : Nat) (x : T58) : direct_Right k x = runF direct_Right_X k direct_Right_c [.agg lT58] x := by kernel_rfl
noncomputable def direct_Right_e (k : Nat) : Ent Try.prog := ⟨68, [.agg lT58], [.one (.sc (.bool))], direct_Right k, calls_of (X := direct_Right_X) (k := k) (c := direct_Right_c) Try.func68 (by kernel_rfl) (by kernel_rfl) (by kernel_rfl) (LoopEqs.all (show LoopEqs direct_Right_X direct_Right_c direct_Right_X.L 0 from trivial)) (fun x => direct_Right_eq k x), fun _ _ => by kernel_rfl⟩
/-! felucca/ranges.Compare -/
noncomputable def ranges_Compare_c : Code := Try.f88.body.getD .skip
def ranges_Compare (k : Nat) : (T56 × T56) → Option (Int) := fun (a, b) =>
  (cmp_Compare_int k (a.1, b.1)).bind fun o_1 =>
    (cmp_Compare_int k (a.2.1, b.2.1)).bind fun o_2 =>
      (cmp_Compare_int k (a.2.2.1, b.2.2.1)).bind fun o_3 =>
        (cmp_Or_int k [o_1, o_2, o_3]).bind fun o_4 =>
          some (o_4)
noncomputable def ranges_Compare_X : Cx Try.prog [.one (.sc (.int .i64))] := ⟨fun k => ⟨[cmp_Or_int_e k, cmp_Compare_int_e k], [], []⟩, Try.f88.ntmps, Try.f88.results, []⟩
theorem ranges_Compare_eq (k : Nat) (x : T56 × T56) : ranges_Compare k x = runF ranges_Compare_X k ranges_Compare_c [.agg lT56, .agg lT56] x := by kernel_rfl
noncomputable def ranges_Compare_e (k : Nat) : Ent Try.prog := ⟨88, [.agg lT56, .agg lT56], [.one (.sc (.int .i64))], ranges_Compare k, calls_of (X := ranges_Compare_X) (k := k) (c := ranges_Compare_c) Try.func88 (by kernel_rfl) (by kernel_rfl) (by kernel_rfl) (LoopEqs.all (show LoopEqs ranges_Compare_X ranges_Compare_c ranges_Compare_X.L 0 from trivial)) (fun x => ranges_Compare_eq k x), fun _ _ => by kernel_rfl⟩
/-! felucca/ranges.overlap -/
noncomputable def ranges_overlap_c : Code := Try.f89.body.getD .skip
def ranges_overlap (k : Nat) : (T56 × T56) → Option (Bool) := fun (a, b) =>
  bif decide (a.1 = b.1) then
    bif decide (a.2.1 = b.2.1) then
      bif decide (mx a.2.2.1 b.2.2.1 < mn a.2.2.2.1 b.2.2.2.1) then
        some (true)
      else
        some (false)
    else
      some (false)
  else
    some (false)
noncomputable def ranges_overlap_X : Cx Try.prog [.one (.sc (.bool))] := ⟨fun k => ⟨[], [], []⟩, Try.f89.ntmps, Try.f89.results, []⟩
theorem ranges_overlap_eq (k : Nat) (x : T56 × T56) : ranges_overlap k x = runF ranges_overlap_X k ranges_overlap_c [.agg lT56, .agg lT56] x := by kernel_rfl
noncomputable def ranges_overlap_e (k : Nat) : Ent Try.prog := ⟨89, [.agg lT56, .agg lT56], [.one (.sc (.bool))], ranges_overlap k, calls_of (X := ranges_overlap_X) (k := k) (c := ranges_overlap_c) Try.func89 (by kernel_rfl) (by kernel_rfl) (by kernel_rfl) (LoopEqs.all (show LoopEqs ranges_overlap_X ranges_overlap_c ranges_overlap_X.L 0 from trivial)) (fun x => ranges_overlap_eq k x), fun _ _ => by kernel_rfl⟩
/-! slices.Clone[[]felucca/api.Range,felucca/api.Range] -/
noncomputable def slices_Clone_api_Range_api_Range_c : Code := Try.f85.body.getD .skip
def slices_Clone_api_Range_api_Range (k : Nat) : (List T56) → Option (List T56) := fun s =>
  bif decide ((0 + List.length s) * 40 ≤ 140737488355328) then
    some (s)
  else
    none
noncomputable def slices_Clone_api_Range_api_Range_X : Cx Try.prog [.one (.row 56 kT56)] := ⟨fun _ => ⟨[], [], []⟩, Try.f85.ntmps, Try.f85.results, []⟩
theorem slices_Clone_api_Range_api_Range_eq (k : Nat) (x : List T56) : slices_Clone_api_Range_api_Range k x = runAt slices_Clone_api_Range_api_Range_X k (restC slices_Clone_api_Range_api_Range_c) (cloneS kT56 x) := by kernel_rfl
noncomputable def slices_Clone_api_Range_api_Range_e (k : Nat) : Ent Try.prog := ⟨85, [.one (.row 56 kT56)], [.one (.row 56 kT56)], slices_Clone_api_Range_api_Range k, clone_calls (sT := 50) (bT := 4) (e := 56) (rest := restC slices_Clone_api_Range_api_Range_c) (X := slices_Clone_api_Range_api_Range_X) (k := k) Try.func85 (by kernel_rfl) (by kernel_rfl) (by kernel_rfl) (by kernel_rfl) rfl (by kernel_rfl) (by kernel_rfl) (by kernel_rfl) (by kernel_rfl) (by kernel_rfl) (fun l => slices_Clone_api_Range_api_Range_eq k l), fun _ _ => by kernel_rfl⟩
/-! slices.Equal[[]felucca/api.Range,felucca/api.Range] -/
noncomputable def slices_Equal_api_Range_api_Range_c : Code := Try.f74.body.getD .skip
def slices_Equal_api_Range_api_Range_L0 : Nat → ((List T56) × (List T56) × Int × Int) → Option ((Unit) ⊕ (Bool))
  | 0, _ => none
  | k + 1, (s1, s2, t12, t13) =>
  bif decide (t13 < t12) then
    bif decide (0 ≤ t13) then
      bif decide (t13 < Int.ofNat (List.length s1)) then
        bif decide (0 ≤ t13) then
          bif decide (t13 < Int.ofNat (List.length s2)) then
            bif !((List.getD s1 (Int.toNat t13) (0, 0, 0, 0, 0)).1 == (List.getD s2 (Int.toNat t13) (0, 0, 0, 0, 0)).1 && ((List.getD s1 (Int.toNat t13) (0, 0, 0, 0, 0)).2.1 == (List.getD s2 (Int.toNat t13) (0, 0, 0, 0, 0)).2.1 && ((List.getD s1 (Int.toNat t13) (0, 0, 0, 0, 0)).2.2.1 == (List.getD s2 (Int.toNat t13) (0, 0, 0, 0, 0)).2.2.1 && ((List.getD s1 (Int.toNat t13) (0, 0, 0, 0, 0)).2.2.2.1 == (List.getD s2 (Int.toNat t13) (0, 0, 0, 0, 0)).2.2.2.1 && (List.getD s1 (Int.toNat t13) (0, 0, 0, 0, 0)).2.2.2.2 == (List.getD s2 (Int.toNat t13) (0, 0, 0, 0, 0)).2.2.2.2)))) then
              some (Sum.inr false)
            else
              slices_Equal_api_Range_api_Range_L0 k (s1, s2, t12, w64 (t13 + 1))
          else
            none
        else
          none
      else
        none
    else
      none
  else
    some (Sum.inl ())
def slices_Equal_api_Range_api_Range (k : Nat) : ((List T56) × (List T56)) → Option (Bool) := fun (s1, s2) =>
  bif !decide (Int.ofNat (List.length s1) = Int.ofNat (List.length s2)) then
    some (false)
  else
    (slices_Equal_api_Range_api_Range_L0 k (s1, s2, Int.ofNat (List.length s1), 0)).bind fun o_2 =>
      match o_2 with
      | .inl o_3 =>
        some (true)
      | .inr o_3 =>
        some (o_3)
noncomputable def slices_Equal_api_Range_api_Range_X : Cx Try.prog [.one (.sc (.bool))] := ⟨fun k => ⟨[], [], []⟩, Try.f74.ntmps, Try.f74.results, [some ⟨0, [(0, .one (.ro kT56)), (1, .one (.ro kT56)), (12, .one (.sc (.int .i64))), (13, .one (.sc (.int .i64)))], [], slices_Equal_api_Range_api_Range_L0⟩]⟩
theorem slices_Equal_api_Range_api_Range_L0_eq (k : Nat) (x : (List T56) × (List T56) × Int × Int) : slices_Equal_api_Range_api_Range_L0 (k + 1) x = roundF slices_Equal_api_Range_api_Range_X k ⟨0, [(0, .one (.ro kT56)), (1, .one (.ro kT56)), (12, .one (.sc (.int .i64))), (13, .one (.sc (.int .i64)))], [], slices_Equal_api_Range_api_Range_L0⟩ 0 (lp slices_Equal_api_Range_api_Range_c 0) x := by kernel_rfl
theorem slices_Equal_api_Range_api_Range_eq (k : Nat) (x : (List T56) × (List T56)) : slices_Equal_api_Range_api_Range k x = runF slices_Equal_api_Range_api_Range_X k slices_Equal_api_Range_api_Range_c [.one (.row 56 kT56), .one (.row 56 kT56)] x := by kernel_rfl
noncomputable def slices_Equal_api_Range_api_Range_e (k : Nat) : Ent Try.prog := ⟨74, [.one (.row 56 kT56), .one (.row 56 kT56)], [.one (.sc (.bool))], slices_Equal_api_Range_api_Range k, calls_of (X := slices_Equal_api_Range_api_Range_X) (k := k) (c := slices_Equal_api_Range_api_Range_c) Try.func74 (by kernel_rfl) (by kernel_rfl) (by kernel_rfl) (LoopEqs.all (show LoopEqs slices_Equal_api_Range_api_Range_X slices_Equal_api_Range_api_Range_c slices_Equal_api_Range_api_Range_X.L 0 from ⟨⟨fun _ => rfl, fun k x => slices_Equal_api_Range_api_Range_L0_eq k x⟩, trivial⟩)) (fun x => slices_Equal_api_Range_api_Range_eq k x), fun _ _ => by kernel_rfl⟩
/-! felucca/ranges.Same -/
noncomputable def ranges_Same_c : Code := Try.f43.body.getD .skip
def ranges_Same (k : Nat) : ((List T56) × (List T56)) → Option (Bool) := fun (a, b) =>
  (slices_Equal_api_Range_api_Range k (a, b)).bind fun o_1 =>
    bif o_1 then
      some (true)
    else
      some (false)
noncomputable def ranges_Same_X : Cx Try.prog [.one (.sc (.bool))] := ⟨fun k => ⟨[slices_Equal_api_Range_api_Range_e k], [], []⟩, Try.f43.ntmps, Try.f43.results, []⟩
theorem ranges_Same_eq (k : Nat) (x : (List T56) × (List T56)) : ranges_Same k x = runF ranges_Same_X k ranges_Same_c [.one (.row 56 kT56), .one (.row 56 kT56)] x := by kernel_rfl
noncomputable def ranges_Same_e (k : Nat) : Ent Try.prog := ⟨43, [.one (.row 56 kT56), .one (.row 56 kT56)], [.one (.sc (.bool))], ranges_Same k, calls_of (X := ranges_Same_X) (k := k) (c := ranges_Same_c) Try.func43 (by kernel_rfl) (by kernel_rfl) (by kernel_rfl) (LoopEqs.all (show LoopEqs ranges_Same_X ranges_Same_c ranges_Same_X.L 0 from trivial)) (fun x => ranges_Same_eq k x), fun _ _ => by kernel_rfl⟩
/-! felucca/plan.Right$1 -/
noncomputable def plan_Right_1_c : Code := Try.f64.body.getD .skip
def plan_Right_1 (k : Nat) : (T28 × T52) → Option (Bool) := fun (c0, t1) =>
  bif decide (c0.2.2.2.2.1 ≤ t1.2.2.1) then
    some (true)
  else
    some (false)
noncomputable def plan_Right_1_X : Cx Try.prog [.one (.sc (.bool))] := ⟨fun k => ⟨[], [], []⟩, Try.f64.ntmps, Try.f64.results, []⟩
theorem plan_Right_1_eq (k : Nat) (x : T28 × T52) : plan_Right_1 k x = runF plan_Right_1_X k plan_Right_1_c [.agg lT28, .one (.ptr [.row kT28, .row kT56, .int .i64, .int .i64])] x := by kernel_rfl
noncomputable def plan_Right_1_e (k : Nat) : Ent Try.prog := ⟨64, [.agg lT28, .one (.ptr [.row kT28, .row kT56, .int .i64, .int .i64])], [.one (.sc (.bool))], plan_Right_1 k, calls_of (X := plan_Right_1_X) (k := k) (c := plan_Right_1_c) Try.func64 (by kernel_rfl) (by kernel_rfl) (by kernel_rfl) (LoopEqs.all (show LoopEqs plan_Right_1_X plan_Right_1_c plan_Right_1_X.L 0 from trivial)) (fun x => plan_Right_1_eq k x), fun _ _ => by kernel_rfl⟩
/-! felucca/plan.Right$2 -/
noncomputable def plan_Right_2_c : Code := Try.f65.body.getD .skip
def plan_Right_2 (k : Nat) : (T56 × T52) → Option (Bool) := fun (r, t1) =>
  bif decide (r.2.2.2.1 ≤ t1.2.2.1) then
    some (true)
  else
    some (false)
noncomputable def plan_Right_2_X : Cx Try.prog [.one (.sc (.bool))] := ⟨fun k => ⟨[], [], []⟩, Try.f65.ntmps, Try.f65.results, []⟩
theorem plan_Right_2_eq (k : Nat) (x : T56 × T52) : plan_Right_2 k x = runF plan_Right_2_X k plan_Right_2_c [.agg lT56, .one (.ptr [.row kT28, .row kT56, .int .i64, .int .i64])] x := by kernel_rfl
noncomputable def plan_Right_2_e (k : Nat) : Ent Try.prog := ⟨65, [.agg lT56, .one (.ptr [.row kT28, .row kT56, .int .i64, .int .i64])], [.one (.sc (.bool))], plan_Right_2 k, calls_of (X := plan_Right_2_X) (k := k) (c := plan_Right_2_c) Try.func65 (by kernel_rfl) (by kernel_rfl) (by kernel_rfl) (LoopEqs.all (show LoopEqs plan_Right_2_X plan_Right_2_c plan_Right_2_X.L 0 from trivial)) (fun x => plan_Right_2_eq k x), fun _ _ => by kernel_rfl⟩
/-! slices.IndexFunc[[]felucca/api.Contact,felucca/api.Contact] -/
noncomputable def IndexFunc_r1_c : Code := Try.f57.body.getD .skip
def IndexFunc_r1_L0 : Nat → ((List T28) × T52 × Int × Int) → Option ((Unit) ⊕ (Int))
  | 0, _ => none
  | k + 1, (s, f, t7, t8) =>
  bif decide (t8 < t7) then
    bif decide (0 ≤ t8) then
      bif decide (t8 < Int.ofNat (List.length s)) then
        (plan_Right_1 k (List.getD s (Int.toNat t8) (0, 0, 0, 0, 0, 0), f)).bind fun o_4 =>
          bif o_4 then
            some (Sum.inr t8)
          else
            IndexFunc_r1_L0 k (s, f, t7, w64 (t8 + 1))
      else
        none
    else
      none
  else
    some (Sum.inl ())
def IndexFunc_r1 (k : Nat) : ((List T28) × T52) → Option (Int) := fun (s, f) =>
  (IndexFunc_r1_L0 k (s, f, Int.ofNat (List.length s), 0)).bind fun o_1 =>
    match o_1 with
    | .inl o_2 =>
      some (-1)
    | .inr o_2 =>
      some (o_2)
noncomputable def IndexFunc_r1_X : Cx Try.prog [.one (.sc (.int .i64))] := ⟨fun k => ⟨[plan_Right_1_e k], [], []⟩, Try.f57.ntmps, Try.f57.results, [some ⟨0, [(0, .one (.ro kT28)), (1, .fnp 64 [[.row kT28, .row kT56, .int .i64, .int .i64]]), (7, .one (.sc (.int .i64))), (8, .one (.sc (.int .i64)))], [], IndexFunc_r1_L0⟩]⟩
theorem IndexFunc_r1_L0_eq (k : Nat) (x : (List T28) × T52 × Int × Int) : IndexFunc_r1_L0 (k + 1) x = roundF IndexFunc_r1_X k ⟨0, [(0, .one (.ro kT28)), (1, .fnp 64 [[.row kT28, .row kT56, .int .i64, .int .i64]]), (7, .one (.sc (.int .i64))), (8, .one (.sc (.int .i64)))], [], IndexFunc_r1_L0⟩ 0 (lp IndexFunc_r1_c 0) x := by kernel_rfl
theorem IndexFunc_r1_eq (k : Nat) (x : (List T28) × T52) : IndexFunc_r1 k x = runF IndexFunc_r1_X k IndexFunc_r1_c [.one (.row 28 kT28), .one (.fnc 64 [[.row kT28, .row kT56, .int .i64, .int .i64]])] x := by kernel_rfl
noncomputable def IndexFunc_r1_e (k : Nat) : Ent Try.prog := ⟨57, [.one (.row 28 kT28), .one (.fnc 64 [[.row kT28, .row kT56, .int .i64, .int .i64]])], [.one (.sc (.int .i64))], IndexFunc_r1 k, calls_of (X := IndexFunc_r1_X) (k := k) (c := IndexFunc_r1_c) Try.func57 (by kernel_rfl) (by kernel_rfl) (by kernel_rfl) (LoopEqs.all (show LoopEqs IndexFunc_r1_X IndexFunc_r1_c IndexFunc_r1_X.L 0 from ⟨⟨fun _ => rfl, fun k x => IndexFunc_r1_L0_eq k x⟩, trivial⟩)) (fun x => IndexFunc_r1_eq k x), fun _ _ => by kernel_rfl⟩
/-! slices.ContainsFunc[[]felucca/api.Contact,felucca/api.Contact] -/
noncomputable def ContainsFunc_r1_c : Code := Try.f51.body.getD .skip
def ContainsFunc_r1 (k : Nat) : ((List T28) × T52) → Option (Bool) := fun (s, f) =>
  (IndexFunc_r1 k (s, f)).bind fun o_1 =>
    bif decide (0 ≤ o_1) then
      some (true)
    else
      some (false)
noncomputable def ContainsFunc_r1_X : Cx Try.prog [.one (.sc (.bool))] := ⟨fun k => ⟨[IndexFunc_of_e k, IndexFunc_ov_e k, IndexFunc_r1_e k, plan_Right_1_e k], [], []⟩, Try.f51.ntmps, Try.f51.results, []⟩
theorem ContainsFunc_r1_eq (k : Nat) (x : (List T28) × T52) : ContainsFunc_r1 k x = runF ContainsFunc_r1_X k ContainsFunc_r1_c [.one (.row 28 kT28), .one (.fnc 64 [[.row kT28, .row kT56, .int .i64, .int .i64]])] x := by kernel_rfl
noncomputable def ContainsFunc_r1_e (k : Nat) : Ent Try.prog := ⟨51, [.one (.row 28 kT28), .one (.fnc 64 [[.row kT28, .row kT56, .int .i64, .int .i64]])], [.one (.sc (.bool))], ContainsFunc_r1 k, calls_of (X := ContainsFunc_r1_X) (k := k) (c := ContainsFunc_r1_c) Try.func51 (by kernel_rfl) (by kernel_rfl) (by kernel_rfl) (LoopEqs.all (show LoopEqs ContainsFunc_r1_X ContainsFunc_r1_c ContainsFunc_r1_X.L 0 from trivial)) (fun x => ContainsFunc_r1_eq k x), fun _ _ => by kernel_rfl⟩
/-! felucca/ranges.Add$1 -/
noncomputable def ranges_Add_1_c : Code := Try.f92.body.getD .skip
def ranges_Add_1 (k : Nat) : (T56 × T56) → Option (Bool) := fun (x0, t1) =>
  (ranges_overlap k (x0, t1)).bind fun o_1 =>
    bif o_1 then
      some (true)
    else
      some (false)
noncomputable def ranges_Add_1_X : Cx Try.prog [.one (.sc (.bool))] := ⟨fun k => ⟨[ranges_overlap_e k], [], []⟩, Try.f92.ntmps, Try.f92.results, []⟩
theorem ranges_Add_1_eq (k : Nat) (x : T56 × T56) : ranges_Add_1 k x = runF ranges_Add_1_X k ranges_Add_1_c [.agg lT56, .one (.ptr [.int .i64, .int .i64, .int .i64, .int .i64, .int .i64])] x := by kernel_rfl
noncomputable def ranges_Add_1_e (k : Nat) : Ent Try.prog := ⟨92, [.agg lT56, .one (.ptr [.int .i64, .int .i64, .int .i64, .int .i64, .int .i64])], [.one (.sc (.bool))], ranges_Add_1 k, calls_of (X := ranges_Add_1_X) (k := k) (c := ranges_Add_1_c) Try.func92 (by kernel_rfl) (by kernel_rfl) (by kernel_rfl) (LoopEqs.all (show LoopEqs ranges_Add_1_X ranges_Add_1_c ranges_Add_1_X.L 0 from trivial)) (fun x => ranges_Add_1_eq k x), fun _ _ => by kernel_rfl⟩
/-! felucca/ranges.Expire$1 -/
noncomputable def ranges_Expire_1_c : Code := Try.f97.body.getD .skip
def ranges_Expire_1 (k : Nat) : (T56 × Int) → Option (Bool) := fun (r, t1) =>
  bif decide (r.2.2.2.1 ≤ t1) then
    some (true)
  else
    some (false)
noncomputable def ranges_Expire_1_X : Cx Try.prog [.one (.sc (.bool))] := ⟨fun k => ⟨[], [], []⟩, Try.f97.ntmps, Try.f97.results, []⟩
theorem ranges_Expire_1_eq (k : Nat) (x : T56 × Int) : ranges_Expire_1 k x = runF ranges_Expire_1_X k ranges_Expire_1_c [.agg lT56, .one (.ptr [.int .i64])] x := by kernel_rfl
noncomputable def ranges_Expire_1_e (k : Nat) : Ent Try.prog := ⟨97, [.agg lT56, .one (.ptr [.int .i64])], [.one (.sc (.bool))], ranges_Expire_1 k, calls_of (X := ranges_Expire_1_X) (k := k) (c := ranges_Expire_1_c) Try.func97 (by kernel_rfl) (by kernel_rfl) (by kernel_rfl) (LoopEqs.all (show LoopEqs ranges_Expire_1_X ranges_Expire_1_c ranges_Expire_1_X.L 0 from trivial)) (fun x => ranges_Expire_1_eq k x), fun _ _ => by kernel_rfl⟩
/-! slices.IndexFunc[[]felucca/api.Range,felucca/api.Range] -/
noncomputable def IndexFuncR_r2_c : Code := Try.f86.body.getD .skip
def IndexFuncR_r2_L0 : Nat → ((List T56) × T52 × Int × Int) → Option ((Unit) ⊕ (Int))
  | 0, _ => none
  | k + 1, (s, f, t7, t8) =>
  bif decide (t8 < t7) then
    bif decide (0 ≤ t8) then
      bif decide (t8 < Int.ofNat (List.length s)) then
        (plan_Right_2 k (List.getD s (Int.toNat t8) (0, 0, 0, 0, 0), f)).bind fun o_4 =>
          bif o_4 then
            some (Sum.inr t8)
          else
            IndexFuncR_r2_L0 k (s, f, t7, w64 (t8 + 1))
      else
        none
    else
      none
  else
    some (Sum.inl ())
def IndexFuncR_r2 (k : Nat) : ((List T56) × T52) → Option (Int) := fun (s, f) =>
  (IndexFuncR_r2_L0 k (s, f, Int.ofNat (List.length s), 0)).bind fun o_1 =>
    match o_1 with
    | .inl o_2 =>
      some (-1)
    | .inr o_2 =>
      some (o_2)
noncomputable def IndexFuncR_r2_X : Cx Try.prog [.one (.sc (.int .i64))] := ⟨fun k => ⟨[plan_Right_2_e k], [], []⟩, Try.f86.ntmps, Try.f86.results, [some ⟨0, [(0, .one (.ro kT56)), (1, .fnp 65 [[.row kT28, .row kT56, .int .i64, .int .i64]]), (7, .one (.sc (.int .i64))), (8, .one (.sc (.int .i64)))], [], IndexFuncR_r2_L0⟩]⟩
theorem IndexFuncR_r2_L0_eq (k : Nat) (x : (List T56) × T52 × Int × Int) : IndexFuncR_r2_L0 (k + 1) x = roundF IndexFuncR_r2_X k ⟨0, [(0, .one (.ro kT56)), (1, .fnp 65 [[.row kT28, .row kT56, .int .i64, .int .i64]]), (7, .one (.sc (.int .i64))), (8, .one (.sc (.int .i64)))], [], IndexFuncR_r2_L0⟩ 0 (lp IndexFuncR_r2_c 0) x := by kernel_rfl
theorem IndexFuncR_r2_eq (k : Nat) (x : (List T56) × T52) : IndexFuncR_r2 k x = runF IndexFuncR_r2_X k IndexFuncR_r2_c [.one (.row 56 kT56), .one (.fnc 65 [[.row kT28, .row kT56, .int .i64, .int .i64]])] x := by kernel_rfl
noncomputable def IndexFuncR_r2_e (k : Nat) : Ent Try.prog := ⟨86, [.one (.row 56 kT56), .one (.fnc 65 [[.row kT28, .row kT56, .int .i64, .int .i64]])], [.one (.sc (.int .i64))], IndexFuncR_r2 k, calls_of (X := IndexFuncR_r2_X) (k := k) (c := IndexFuncR_r2_c) Try.func86 (by kernel_rfl) (by kernel_rfl) (by kernel_rfl) (LoopEqs.all (show LoopEqs IndexFuncR_r2_X IndexFuncR_r2_c IndexFuncR_r2_X.L 0 from ⟨⟨fun _ => rfl, fun k x => IndexFuncR_r2_L0_eq k x⟩, trivial⟩)) (fun x => IndexFuncR_r2_eq k x), fun _ _ => by kernel_rfl⟩
/-! slices.IndexFunc[[]felucca/api.Range,felucca/api.Range] -/
noncomputable def IndexFuncR_ov_c : Code := Try.f86.body.getD .skip
def IndexFuncR_ov_L0 : Nat → ((List T56) × T56 × Int × Int) → Option ((Unit) ⊕ (Int))
  | 0, _ => none
  | k + 1, (s, f, t7, t8) =>
  bif decide (t8 < t7) then
    bif decide (0 ≤ t8) then
      bif decide (t8 < Int.ofNat (List.length s)) then
        (ranges_Add_1 k (List.getD s (Int.toNat t8) (0, 0, 0, 0, 0), f)).bind fun o_4 =>
          bif o_4 then
            some (Sum.inr t8)
          else
            IndexFuncR_ov_L0 k (s, f, t7, w64 (t8 + 1))
      else
        none
    else
      none
  else
    some (Sum.inl ())
def IndexFuncR_ov (k : Nat) : ((List T56) × T56) → Option (Int) := fun (s, f) =>
  (IndexFuncR_ov_L0 k (s, f, Int.ofNat (List.length s), 0)).bind fun o_1 =>
    match o_1 with
    | .inl o_2 =>
      some (-1)
    | .inr o_2 =>
      some (o_2)
noncomputable def IndexFuncR_ov_X : Cx Try.prog [.one (.sc (.int .i64))] := ⟨fun k => ⟨[ranges_Add_1_e k], [], []⟩, Try.f86.ntmps, Try.f86.results, [some ⟨0, [(0, .one (.ro kT56)), (1, .fnp 92 [[.int .i64, .int .i64, .int .i64, .int .i64, .int .i64]]), (7, .one (.sc (.int .i64))), (8, .one (.sc (.int .i64)))], [], IndexFuncR_ov_L0⟩]⟩
theorem IndexFuncR_ov_L0_eq (k : Nat) (x : (List T56) × T56 × Int × Int) : IndexFuncR_ov_L0 (k + 1) x = roundF IndexFuncR_ov_X k ⟨0, [(0, .one (.ro kT56)), (1, .fnp 92 [[.int .i64, .int .i64, .int .i64, .int .i64, .int .i64]]), (7, .one (.sc (.int .i64))), (8, .one (.sc (.int .i64)))], [], IndexFuncR_ov_L0⟩ 0 (lp IndexFuncR_ov_c 0) x := by kernel_rfl
theorem IndexFuncR_ov_eq (k : Nat) (x : (List T56) × T56) : IndexFuncR_ov k x = runF IndexFuncR_ov_X k IndexFuncR_ov_c [.one (.row 56 kT56), .one (.fnc 92 [[.int .i64, .int .i64, .int .i64, .int .i64, .int .i64]])] x := by kernel_rfl
noncomputable def IndexFuncR_ov_e (k : Nat) : Ent Try.prog := ⟨86, [.one (.row 56 kT56), .one (.fnc 92 [[.int .i64, .int .i64, .int .i64, .int .i64, .int .i64]])], [.one (.sc (.int .i64))], IndexFuncR_ov k, calls_of (X := IndexFuncR_ov_X) (k := k) (c := IndexFuncR_ov_c) Try.func86 (by kernel_rfl) (by kernel_rfl) (by kernel_rfl) (LoopEqs.all (show LoopEqs IndexFuncR_ov_X IndexFuncR_ov_c IndexFuncR_ov_X.L 0 from ⟨⟨fun _ => rfl, fun k x => IndexFuncR_ov_L0_eq k x⟩, trivial⟩)) (fun x => IndexFuncR_ov_eq k x), fun _ _ => by kernel_rfl⟩
/-! slices.IndexFunc[[]felucca/api.Range,felucca/api.Range] -/
noncomputable def IndexFuncR_ex_c : Code := Try.f86.body.getD .skip
def IndexFuncR_ex_L0 : Nat → ((List T56) × Int × Int × Int) → Option ((Unit) ⊕ (Int))
  | 0, _ => none
  | k + 1, (s, f, t7, t8) =>
  bif decide (t8 < t7) then
    bif decide (0 ≤ t8) then
      bif decide (t8 < Int.ofNat (List.length s)) then
        (ranges_Expire_1 k (List.getD s (Int.toNat t8) (0, 0, 0, 0, 0), f)).bind fun o_4 =>
          bif o_4 then
            some (Sum.inr t8)
          else
            IndexFuncR_ex_L0 k (s, f, t7, w64 (t8 + 1))
      else
        none
    else
      none
  else
    some (Sum.inl ())
def IndexFuncR_ex (k : Nat) : ((List T56) × Int) → Option (Int) := fun (s, f) =>
  (IndexFuncR_ex_L0 k (s, f, Int.ofNat (List.length s), 0)).bind fun o_1 =>
    match o_1 with
    | .inl o_2 =>
      some (-1)
    | .inr o_2 =>
      some (o_2)
noncomputable def IndexFuncR_ex_X : Cx Try.prog [.one (.sc (.int .i64))] := ⟨fun k => ⟨[ranges_Expire_1_e k], [], []⟩, Try.f86.ntmps, Try.f86.results, [some ⟨0, [(0, .one (.ro kT56)), (1, .fnp 97 [[.int .i64]]), (7, .one (.sc (.int .i64))), (8, .one (.sc (.int .i64)))], [], IndexFuncR_ex_L0⟩]⟩
theorem IndexFuncR_ex_L0_eq (k : Nat) (x : (List T56) × Int × Int × Int) : IndexFuncR_ex_L0 (k + 1) x = roundF IndexFuncR_ex_X k ⟨0, [(0, .one (.ro kT56)), (1, .fnp 97 [[.int .i64]]), (7, .one (.sc (.int .i64))), (8, .one (.sc (.int .i64)))], [], IndexFuncR_ex_L0⟩ 0 (lp IndexFuncR_ex_c 0) x := by kernel_rfl
theorem IndexFuncR_ex_eq (k : Nat) (x : (List T56) × Int) : IndexFuncR_ex k x = runF IndexFuncR_ex_X k IndexFuncR_ex_c [.one (.row 56 kT56), .one (.fnc 97 [[.int .i64]])] x := by kernel_rfl
noncomputable def IndexFuncR_ex_e (k : Nat) : Ent Try.prog := ⟨86, [.one (.row 56 kT56), .one (.fnc 97 [[.int .i64]])], [.one (.sc (.int .i64))], IndexFuncR_ex k, calls_of (X := IndexFuncR_ex_X) (k := k) (c := IndexFuncR_ex_c) Try.func86 (by kernel_rfl) (by kernel_rfl) (by kernel_rfl) (LoopEqs.all (show LoopEqs IndexFuncR_ex_X IndexFuncR_ex_c IndexFuncR_ex_X.L 0 from ⟨⟨fun _ => rfl, fun k x => IndexFuncR_ex_L0_eq k x⟩, trivial⟩)) (fun x => IndexFuncR_ex_eq k x), fun _ _ => by kernel_rfl⟩
/-! slices.ContainsFunc[[]felucca/api.Range,felucca/api.Range] -/
noncomputable def ContainsFuncR_r2_c : Code := Try.f66.body.getD .skip
def ContainsFuncR_r2 (k : Nat) : ((List T56) × T52) → Option (Bool) := fun (s, f) =>
  (IndexFuncR_r2 k (s, f)).bind fun o_1 =>
    bif decide (0 ≤ o_1) then
      some (true)
    else
      some (false)
noncomputable def ContainsFuncR_r2_X : Cx Try.prog [.one (.sc (.bool))] := ⟨fun k => ⟨[plan_Right_2_e k, IndexFuncR_r2_e k, IndexFuncR_ov_e k, IndexFuncR_ex_e k], [], []⟩, Try.f66.ntmps, Try.f66.results, []⟩
theorem ContainsFuncR_r2_eq (k : Nat) (x : (List T56) × T52) : ContainsFuncR_r2 k x = runF ContainsFuncR_r2_X k ContainsFuncR_r2_c [.one (.row 56 kT56), .one (.fnc 65 [[.row kT28, .row kT56, .int .i64, .int .i64]])] x := by kernel_rfl
noncomputable def ContainsFuncR_r2_e (k : Nat) : Ent Try.prog := ⟨66, [.one (.row 56 kT56), .one (.fnc 65 [[.row kT28, .row kT56, .int .i64, .int .i64]])], [.one (.sc (.bool))], ContainsFuncR_r2 k, calls_of (X := ContainsFuncR_r2_X) (k := k) (c := ContainsFuncR_r2_c) Try.func66 (by kernel_rfl) (by kernel_rfl) (by kernel_rfl) (LoopEqs.all (show LoopEqs ContainsFuncR_r2_X ContainsFuncR_r2_c ContainsFuncR_r2_X.L 0 from trivial)) (fun x => ContainsFuncR_r2_eq k x), fun _ _ => by kernel_rfl⟩
/-! slices.ContainsFunc[[]felucca/api.Range,felucca/api.Range] -/
noncomputable def ContainsFuncR_ov_c : Code := Try.f66.body.getD .skip
def ContainsFuncR_ov (k : Nat) : ((List T56) × T56) → Option (Bool) := fun (s, f) =>
  (IndexFuncR_ov k (s, f)).bind fun o_1 =>
    bif decide (0 ≤ o_1) then
      some (true)
    else
      some (false)
noncomputable def ContainsFuncR_ov_X : Cx Try.prog [.one (.sc (.bool))] := ⟨fun k => ⟨[IndexFuncR_r2_e k, IndexFuncR_ov_e k, IndexFuncR_ex_e k, ranges_Add_1_e k], [], []⟩, Try.f66.ntmps, Try.f66.results, []⟩
theorem ContainsFuncR_ov_eq (k : Nat) (x : (List T56) × T56) : ContainsFuncR_ov k x = runF ContainsFuncR_ov_X k ContainsFuncR_ov_c [.one (.row 56 kT56), .one (.fnc 92 [[.int .i64, .int .i64, .int .i64, .int .i64, .int .i64]])] x := by kernel_rfl
noncomputable def ContainsFuncR_ov_e (k : Nat) : Ent Try.prog := ⟨66, [.one (.row 56 kT56), .one (.fnc 92 [[.int .i64, .int .i64, .int .i64, .int .i64, .int .i64]])], [.one (.sc (.bool))], ContainsFuncR_ov k, calls_of (X := ContainsFuncR_ov_X) (k := k) (c := ContainsFuncR_ov_c) Try.func66 (by kernel_rfl) (by kernel_rfl) (by kernel_rfl) (LoopEqs.all (show LoopEqs ContainsFuncR_ov_X ContainsFuncR_ov_c ContainsFuncR_ov_X.L 0 from trivial)) (fun x => ContainsFuncR_ov_eq k x), fun _ _ => by kernel_rfl⟩
/-! slices.DeleteFunc[[]felucca/api.Range,felucca/api.Range] -/
noncomputable def DeleteFuncR_ex_c : Code := Try.f96.body.getD .skip
def DeleteFuncR_ex_L0 : Nat → ((List T56) × Int × Int × Int) → Option (((List T56) × Int) ⊕ (List T56))
  | 0, _ => none
  | k + 1, (s, del, i, j) =>
  bif decide (j < Int.ofNat (List.length s)) then
    bif decide (0 ≤ j) then
      bif decide (j < Int.ofNat (List.length s)) then
        (ranges_Expire_1 k (List.getD s (Int.toNat j) (0, 0, 0, 0, 0), del)).bind fun o_4 =>
          bif o_4 then
            DeleteFuncR_ex_L0 k (s, del, i, w64 (j + 1))
          else
            bif decide (0 ≤ i) then
              bif decide (i < Int.ofNat (List.length s)) then
                DeleteFuncR_ex_L0 k (List.set s (Int.toNat i) (List.getD s (Int.toNat j) (0, 0, 0, 0, 0)), del, w64 (i + 1), w64 (j + 1))
              else
                none
            else
              none
      else
        none
    else
      none
  else
    some (Sum.inl (s, i))
def DeleteFuncR_ex (k : Nat) : List T56 → Int → Option (List T56) := fun s (del) =>
  (IndexFuncR_ex k (s, del)).bind fun o_1 =>
    bif decide (o_1 = -1) then
      some (s)
    else
      (DeleteFuncR_ex_L0 k (s, del, o_1, w64 (o_1 + 1))).bind fun o_3 =>
        match o_3 with
        | .inl o_4 =>
          bif decide (0 ≤ o_4.2) then
            bif decide (o_4.2 ≤ Int.ofNat (List.length o_4.1)) then
              bif decide (0 ≤ o_4.2) then
                bif decide (o_4.2 ≤ Int.ofNat (List.length (clearL o_4.1 (Int.toNat o_4.2) (0, 0, 0, 0, 0)))) then
                  some (List.take (Int.toNat o_4.2) (clearL o_4.1 (Int.toNat o_4.2) (0, 0, 0, 0, 0)))
                else
                  none
              else
                none
            else
              none
          else
            none
        | .inr o_4 =>
          some (o_4)
noncomputable def DeleteFuncR_ex_X : Cx Try.prog [.one (.row 56 kT56)] := ⟨fun k => ⟨[IndexFuncR_r2_e k, IndexFuncR_ov_e k, IndexFuncR_ex_e k, ranges_Expire_1_e k], [], []⟩, Try.f96.ntmps, Try.f96.results, [some ⟨0, [(0, .one (.own 56 kT56)), (1, .fnp 97 [[.int .i64]]), (5, .one (.sc (.int .i64))), (6, .one (.sc (.int .i64)))], [(0, .one (.own 56 kT56)), (5, .one (.sc (.int .i64)))], DeleteFuncR_ex_L0⟩]⟩
theorem DeleteFuncR_ex_L0_eq (k : Nat) (x : (List T56) × Int × Int × Int) : DeleteFuncR_ex_L0 (k + 1) x = roundF DeleteFuncR_ex_X k ⟨0, [(0, .one (.own 56 kT56)), (1, .fnp 97 [[.int .i64]]), (5, .one (.sc (.int .i64))), (6, .one (.sc (.int .i64)))], [(0, .one (.own 56 kT56)), (5, .one (.sc (.int .i64)))], DeleteFuncR_ex_L0⟩ 0 (lp DeleteFuncR_ex_c 0) x := by kernel_rfl
theorem DeleteFuncR_ex_eq (k : Nat) (l : List T56) (x : Int) : DeleteFuncR_ex k l x = runM (T := 56) (s := kT56) DeleteFuncR_ex_X k DeleteFuncR_ex_c [.one (.fnc 97 [[.int .i64]])] l x := by kernel_rfl
noncomputable def DeleteFuncR_ex_m (k : Nat) : EntM Try.prog := ⟨96, 56, kT56, [.one (.fnc 97 [[.int .i64]])], false, DeleteFuncR_ex k, mut_of (X := DeleteFuncR_ex_X) (k := k) (c := DeleteFuncR_ex_c) (by kernel_rfl) Try.func96 (by kernel_rfl) (by kernel_rfl) (by kernel_rfl) (LoopEqs.all (show LoopEqs DeleteFuncR_ex_X DeleteFuncR_ex_c DeleteFuncR_ex_X.L 0 from ⟨⟨fun _ => rfl, fun k x => DeleteFuncR_ex_L0_eq k x⟩, trivial⟩)) (fun l x => DeleteFuncR_ex_eq k l x), fun _ _ => by kernel_rfl⟩
/-! slices.BinarySearchFunc[[]felucca/api.Range,felucca/api.Range,felucca/api.Range] -/
noncomputable def BinarySearchFunc_R_c : Code := Try.f93.body.getD .skip
def BinarySearchFunc_R_L0 : Nat → ((List T56) × Unit × T56 × Int × Int × Int) → Option (((List T56) × Unit × T56 × Int × Int) ⊕ (Int × Bool))
  | 0, _ => none
  | k + 1, (x0, cmp, target, n, i, j) =>
  bif decide (i < j) then
    bif decide (0 ≤ w64 (Int.fdiv (IntKind.wrap IntKind.u64 (w64 (i + j))) (2 ^ min (Int.toNat 1) 64))) then
      bif decide (w64 (Int.fdiv (IntKind.wrap IntKind.u64 (w64 (i + j))) (2 ^ min (Int.toNat 1) 64)) < Int.ofNat (List.length x0)) then
        (ranges_Compare k (List.getD x0 (Int.toNat (w64 (Int.fdiv (IntKind.wrap IntKind.u64 (w64 (i + j))) (2 ^ min (Int.toNat 1) 64)))) (0, 0, 0, 0, 0), target)).bind fun o_4 =>
          bif decide (o_4 < 0) then
            BinarySearchFunc_R_L0 k (x0, (), target, n, w64 (w64 (Int.fdiv (IntKind.wrap IntKind.u64 (w64 (i + j))) (2 ^ min (Int.toNat 1) 64)) + 1), j)
          else
            BinarySearchFunc_R_L0 k (x0, (), target, n, i, w64 (Int.fdiv (IntKind.wrap IntKind.u64 (w64 (i + j))) (2 ^ min (Int.toNat 1) 64)))
      else
        none
    else
      none
  else
    some (Sum.inl (x0, (), target, n, i))
def BinarySearchFunc_R (k : Nat) : ((List T56) × T56 × Unit) → Option (Int × Bool) := fun (x0, target, cmp) =>
  (BinarySearchFunc_R_L0 k (x0, (), target, Int.ofNat (List.length x0), 0, Int.ofNat (List.length x0))).bind fun o_1 =>
    match o_1 with
    | .inl o_2 =>
      bif decide (o_2.2.2.2.2 < o_2.2.2.2.1) then
        bif decide (0 ≤ o_2.2.2.2.2) then
          bif decide (o_2.2.2.2.2 < Int.ofNat (List.length o_2.1)) then
            (ranges_Compare k (List.getD o_2.1 (Int.toNat o_2.2.2.2.2) (0, 0, 0, 0, 0), o_2.2.2.1)).bind fun o_6 =>
              bif decide (o_6 = 0) then
                some ((o_2.2.2.2.2, true))
              else
                some ((o_2.2.2.2.2, false))
          else
            none
        else
          none
      else
        some ((o_2.2.2.2.2, false))
    | .inr o_2 =>
      some (o_2)
noncomputable def BinarySearchFunc_R_X : Cx Try.prog [.one (.sc (.int .i64)), .one (.sc (.bool))] := ⟨fun k => ⟨[ranges_Compare_e k], [], []⟩, Try.f93.ntmps, Try.f93.results, [some ⟨0, [(0, .one (.ro kT56)), (2, .fnp 88 []), (4, .box 56 trT56), (8, .one (.sc (.int .i64))), (9, .one (.sc (.int .i64))), (10, .one (.sc (.int .i64)))], [(0, .one (.ro kT56)), (2, .fnp 88 []), (4, .box 56 trT56), (8, .one (.sc (.int .i64))), (9, .one (.sc (.int .i64)))], BinarySearchFunc_R_L0⟩]⟩
theorem BinarySearchFunc_R_L0_eq (k : Nat) (x : (List T56) × Unit × T56 × Int × Int × Int) : BinarySearchFunc_R_L0 (k + 1) x = roundF BinarySearchFunc_R_X k ⟨0, [(0, .one (.ro kT56)), (2, .fnp 88 []), (4, .box 56 trT56), (8, .one (.sc (.int .i64))), (9, .one (.sc (.int .i64))), (10, .one (.sc (.int .i64)))], [(0, .one (.ro kT56)), (2, .fnp 88 []), (4, .box 56 trT56), (8, .one (.sc (.int .i64))), (9, .one (.sc (.int .i64)))], BinarySearchFunc_R_L0⟩ 0 (lp BinarySearchFunc_R_c 0) x := by kernel_rfl
theorem BinarySearchFunc_R_eq (k : Nat) (x : (List T56) × T56 × Unit) : BinarySearchFunc_R k x = runF BinarySearchFunc_R_X k BinarySearchFunc_R_c [.one (.row 56 kT56), .agg lT56, .one (.fnc 88 [])] x := by kernel_rfl
noncomputable def BinarySearchFunc_R_e (k : Nat) : Ent Try.prog := ⟨93, [.one (.row 56 kT56), .agg lT56, .one (.fnc 88 [])], [.one (.sc (.int .i64)), .one (.sc (.bool))], BinarySearchFunc_R k, calls_of (X := BinarySearchFunc_R_X) (k := k) (c := BinarySearchFunc_R_c) Try.func93 (by kernel_rfl) (by kernel_rfl) (by kernel_rfl) (LoopEqs.all (show LoopEqs BinarySearchFunc_R_X BinarySearchFunc_R_c BinarySearchFunc_R_X.L 0 from ⟨⟨fun _ => rfl, fun k x => BinarySearchFunc_R_L0_eq k x⟩, trivial⟩)) (fun x => BinarySearchFunc_R_eq k x), fun _ _ => by kernel_rfl⟩
/-! slices.Insert[[]felucca/api.Range,felucca/api.Range] (by hand) -/
def slices_InsertR (_k : Nat) : List T56 → (Int × (List T56)) → Option (List T56) := insF 40
noncomputable def slices_InsertR_m (k : Nat) : EntM Try.prog := ⟨94, 56, kT56, [.one (.sc (.int .i64)), .one (.row 56 kT56)], false, slices_InsertR k, ins56_mut, fun _ _ => by kernel_rfl⟩
/-! slices.Delete[[]felucca/api.Range,felucca/api.Range] (by hand) -/
def slices_DeleteR (_k : Nat) : List T56 → (Int × Int) → Option (List T56) := delF
noncomputable def slices_DeleteR_m (k : Nat) : EntM Try.prog := ⟨95, 56, kT56, [.one (.sc (.int .i64)), .one (.sc (.int .i64))], false, slices_DeleteR k, del56_mut, fun _ _ => by kernel_rfl⟩
/-! slices.Insert[[]felucca/api.Contact,felucca/api.Contact] (by hand) -/
def slices_Insert (_k : Nat) : List T28 → (Int × (List T28)) → Option (List T28) := insF 48
noncomputable def slices_Insert_m (k : Nat) : EntM Try.prog := ⟨55, 28, kT28, [.one (.sc (.int .i64)), .one (.row 28 kT28)], false, slices_Insert k, ins28_mut, fun _ _ => by kernel_rfl⟩
/-! felucca/contacts.Add -/
noncomputable def contacts_Add_c : Code := Try.f21.body.getD .skip
def contacts_Add (k : Nat) : ((List T28) × T28) → Option ((List T28) × Int) := fun (l, c1) =>
  (slices_Clone_api_Contact_api_Contact k l).bind fun o_1 =>
    (check_Contact k c1).bind fun o_2 =>
      bif o_2 then
        bif decide (4096 ≤ Int.ofNat (List.length o_1)) then
          some ((o_1, 3))
        else
          (contacts_of k c1.1).bind fun o_5 =>
            (ContainsFunc_of k (o_1, o_5)).bind fun o_6 =>
              bif o_6 then
                some ((o_1, 4))
              else
                (ContainsFunc_ov k (o_1, c1)).bind fun o_8 =>
                  bif o_8 then
                    some ((o_1, 5))
                  else
                    (BinarySearchFunc_C k (o_1, c1, ())).bind fun o_10 =>
                      bif o_10.2 then
                        (slices_Insert k o_1 (o_10.1, [c1])).bind fun o_12 =>
                          some ((o_12, 0))
                      else
                        (slices_Insert k o_1 (o_10.1, [c1])).bind fun o_12 =>
                          some ((o_12, 0))
      else
        some ((o_1, 1))
noncomputable def contacts_Add_X : Cx Try.prog [.one (.row 28 kT28), .one (.sc (.int .i64))] := ⟨fun k => ⟨[contacts_Compare_e k, check_Contact_e k, slices_Clone_api_Contact_api_Contact_e k, ContainsFunc_of_e k, ContainsFunc_ov_e k, ContainsFunc_r1_e k, contacts_of_e k, BinarySearchFunc_C_e k], [slices_Insert_m k], []⟩, Try.f21.ntmps, Try.f21.results, []⟩
theorem contacts_Add_eq (k : Nat) (x : (List T28) × T28) : contacts_Add k x = runF contacts_Add_X k contacts_Add_c [.one (.row 28 kT28), .agg lT28] x := by kernel_rfl
noncomputable def contacts_Add_e (k : Nat) : Ent Try.prog := ⟨21, [.one (.row 28 kT28), .agg lT28], [.one (.row 28 kT28), .one (.sc (.int .i64))], contacts_Add k, calls_of (X := contacts_Add_X) (k := k) (c := contacts_Add_c) Try.func21 (by kernel_rfl) (by kernel_rfl) (by kernel_rfl) (LoopEqs.all (show LoopEqs contacts_Add_X contacts_Add_c contacts_Add_X.L 0 from trivial)) (fun x => contacts_Add_eq k x), fun _ _ => by kernel_rfl⟩
/-! felucca/ranges.Right -/
noncomputable def ranges_Right_c : Code := Try.f67.body.getD .skip
def ranges_Right_L0 : Nat → ((List T56) × (List T56) × Int × Int) → Option ((List T56) ⊕ (Bool))
  | 0, _ => none
  | k + 1, (l, t5, t6, t7) =>
  bif decide (t7 < t6) then
    bif decide (0 ≤ t7) then
      bif decide (t7 < Int.ofNat (List.length t5)) then
        (check_Range k (List.getD t5 (Int.toNat t7) (0, 0, 0, 0, 0))).bind fun o_4 =>
          bif o_4 then
            bif decide (0 < t7) then
              bif decide (0 ≤ w64 (t7 - 1)) then
                bif decide (w64 (t7 - 1) < Int.ofNat (List.length l)) then
                  (ranges_Compare k (List.getD l (Int.toNat (w64 (t7 - 1))) (0, 0, 0, 0, 0), List.getD t5 (Int.toNat t7) (0, 0, 0, 0, 0))).bind fun o_9 =>
                    bif decide (0 ≤ o_9) then
                      some (Sum.inr false)
                    else
                      bif decide (0 ≤ w64 (t7 - 1)) then
                        bif decide (w64 (t7 - 1) < Int.ofNat (List.length l)) then
                          (ranges_overlap k (List.getD l (Int.toNat (w64 (t7 - 1))) (0, 0, 0, 0, 0), List.getD t5 (Int.toNat t7) (0, 0, 0, 0, 0))).bind fun o_13 =>
                            bif o_13 then
                              some (Sum.inr false)
                            else
                              ranges_Right_L0 k (l, t5, t6, w64 (t7 + 1))
                        else
                          none
                      else
                        none
                else
                  none
              else
                none
            else
              ranges_Right_L0 k (l, t5, t6, w64 (t7 + 1))
          else
            some (Sum.inr false)
      else
        none
    else
      none
  else
    some (Sum.inl l)
def ranges_Right (k : Nat) : (List T56) → Option (Bool) := fun (l) =>
  (ranges_Right_L0 k (l, l, Int.ofNat (List.length l), 0)).bind fun o_1 =>
    match o_1 with
    | .inl o_2 =>
      bif decide (Int.ofNat (List.length o_2) ≤ 4096) then
        some (true)
      else
        some (false)
    | .inr o_2 =>
      some (o_2)
noncomputable def ranges_Right_X : Cx Try.prog [.one (.sc (.bool))] := ⟨fun k => ⟨[check_Range_e k, ranges_Compare_e k, ranges_overlap_e k], [], []⟩, Try.f67.ntmps, Try.f67.results, [some ⟨0, [(0, .one (.ro kT56)), (5, .one (.ro kT56)), (6, .one (.sc (.int .i64))), (7, .one (.sc (.int .i64)))], [(0, .one (.ro kT56))], ranges_Right_L0⟩]⟩
theorem ranges_Right_L0_eq (k : Nat) (x : (List T56) × (List T56) × Int × Int) : ranges_Right_L0 (k + 1) x = roundF ranges_Right_X k ⟨0, [(0, .one (.ro kT56)), (5, .one (.ro kT56)), (6, .one (.sc (.int .i64))), (7, .one (.sc (.int .i64)))], [(0, .one (.ro kT56))], ranges_Right_L0⟩ 0 (lp ranges_Right_c 0) x := by kernel_rfl
theorem ranges_Right_eq (k : Nat) (x : List T56) : ranges_Right k x = runF ranges_Right_X k ranges_Right_c [.one (.row 56 kT56)] x := by kernel_rfl
noncomputable def ranges_Right_e (k : Nat) : Ent Try.prog := ⟨67, [.one (.row 56 kT56)], [.one (.sc (.bool))], ranges_Right k, calls_of (X := ranges_Right_X) (k := k) (c := ranges_Right_c) Try.func67 (by kernel_rfl) (by kernel_rfl) (by kernel_rfl) (LoopEqs.all (show LoopEqs ranges_Right_X ranges_Right_c ranges_Right_X.L 0 from ⟨⟨fun _ => rfl, fun k x => ranges_Right_L0_eq k x⟩, trivial⟩)) (fun x => ranges_Right_eq k x), fun _ _ => by kernel_rfl⟩
/-! felucca/plan.Copy -/
noncomputable def plan_Copy_c : Code := Try.f63.body.getD .skip
def plan_Copy (k : Nat) : T52 → Option (T52) := fun (p) =>
  (slices_Clone_api_Contact_api_Contact k p.1).bind fun o_1 =>
    (slices_Clone_api_Range_api_Range k p.2.1).bind fun o_2 =>
      some ((o_1, o_2, p.2.2))
noncomputable def plan_Copy_X : Cx Try.prog [.agg lT52] := ⟨fun k => ⟨[slices_Clone_api_Contact_api_Contact_e k, slices_Clone_api_Range_api_Range_e k], [], []⟩, Try.f63.ntmps, Try.f63.results, []⟩
theorem plan_Copy_eq (k : Nat) (x : T52) : plan_Copy k x = runF plan_Copy_X k plan_Copy_c [.agg lT52] x := by kernel_rfl
noncomputable def plan_Copy_e (k : Nat) : Ent Try.prog := ⟨63, [.agg lT52], [.agg lT52], plan_Copy k, calls_of (X := plan_Copy_X) (k := k) (c := plan_Copy_c) Try.func63 (by kernel_rfl) (by kernel_rfl) (by kernel_rfl) (LoopEqs.all (show LoopEqs plan_Copy_X plan_Copy_c plan_Copy_X.L 0 from trivial)) (fun x => plan_Copy_eq k x), fun _ _ => by kernel_rfl⟩
/-! felucca/plan.past -/
noncomputable def plan_past_c : Code := Try.f69.body.getD .skip
def plan_past (k : Nat) : (T58 × Int) → Option (Bool) := fun (d, now) =>
  bif decide (d.1 = 1) then
    bif decide (mx d.2.2.2.2.2.2.1 d.2.2.2.2.2.2.2.2.2.2.2.1 ≤ now) then
      some (true)
    else
      some (false)
  else
    some (false)
noncomputable def plan_past_X : Cx Try.prog [.one (.sc (.bool))] := ⟨fun k => ⟨[], [], []⟩, Try.f69.ntmps, Try.f69.results, []⟩
theorem plan_past_eq (k : Nat) (x : T58 × Int) : plan_past k x = runF plan_past_X k plan_past_c [.agg lT58, .one (.sc (.int .i64))] x := by kernel_rfl
noncomputable def plan_past_e (k : Nat) : Ent Try.prog := ⟨69, [.agg lT58, .one (.sc (.int .i64))], [.one (.sc (.bool))], plan_past k, calls_of (X := plan_past_X) (k := k) (c := plan_past_c) Try.func69 (by kernel_rfl) (by kernel_rfl) (by kernel_rfl) (LoopEqs.all (show LoopEqs plan_past_X plan_past_c plan_past_X.L 0 from trivial)) (fun x => plan_past_eq k x), fun _ _ => by kernel_rfl⟩
/-! felucca/ranges.Add -/
noncomputable def ranges_Add_c : Code := Try.f70.body.getD .skip
def ranges_Add (k : Nat) : ((List T56) × T56) → Option ((List T56) × Int) := fun (l, r) =>
  (slices_Clone_api_Range_api_Range k l).bind fun o_1 =>
    (check_Range k r).bind fun o_2 =>
      bif o_2 then
        bif decide (4096 ≤ Int.ofNat (List.length o_1)) then
          some ((o_1, 3))
        else
          (ContainsFuncR_ov k (o_1, r)).bind fun o_5 =>
            bif o_5 then
              some ((o_1, 5))
            else
              (BinarySearchFunc_R k (o_1, r, ())).bind fun o_7 =>
                bif o_7.2 then
                  (slices_InsertR k o_1 (o_7.1, [r])).bind fun o_9 =>
                    some ((o_9, 0))
                else
                  (slices_InsertR k o_1 (o_7.1, [r])).bind fun o_9 =>
                    some ((o_9, 0))
      else
        some ((o_1, 1))
noncomputable def ranges_Add_X : Cx Try.prog [.one (.row 56 kT56), .one (.sc (.int .i64))] := ⟨fun k => ⟨[ContainsFuncR_r2_e k, ContainsFuncR_ov_e k, slices_Clone_api_Range_api_Range_e k, check_Range_e k, ranges_Compare_e k, BinarySearchFunc_R_e k], [slices_InsertR_m k], []⟩, Try.f70.ntmps, Try.f70.results, []⟩
theorem ranges_Add_eq (k : Nat) (x : (List T56) × T56) : ranges_Add k x = runF ranges_Add_X k ranges_Add_c [.one (.row 56 kT56), .agg lT56] x := by kernel_rfl
noncomputable def ranges_Add_e (k : Nat) : Ent Try.prog := ⟨70, [.one (.row 56 kT56), .agg lT56], [.one (.row 56 kT56), .one (.sc (.int .i64))], ranges_Add k, calls_of (X := ranges_Add_X) (k := k) (c := ranges_Add_c) Try.func70 (by kernel_rfl) (by kernel_rfl) (by kernel_rfl) (LoopEqs.all (show LoopEqs ranges_Add_X ranges_Add_c ranges_Add_X.L 0 from trivial)) (fun x => ranges_Add_eq k x), fun _ _ => by kernel_rfl⟩
/-! felucca/ranges.Delete -/
noncomputable def ranges_Delete_c : Code := Try.f71.body.getD .skip
def ranges_Delete (k : Nat) : ((List T56) × T56) → Option ((List T56) × Int) := fun (l, r) =>
  (slices_Clone_api_Range_api_Range k l).bind fun o_1 =>
    (BinarySearchFunc_R k (o_1, r, ())).bind fun o_2 =>
      bif o_2.2 then
        (slices_DeleteR k o_1 (o_2.1, w64 (o_2.1 + 1))).bind fun o_4 =>
          some ((o_4, 0))
      else
        some ((o_1, 6))
noncomputable def ranges_Delete_X : Cx Try.prog [.one (.row 56 kT56), .one (.sc (.int .i64))] := ⟨fun k => ⟨[slices_Clone_api_Range_api_Range_e k, ranges_Compare_e k, BinarySearchFunc_R_e k], [slices_DeleteR_m k], []⟩, Try.f71.ntmps, Try.f71.results, []⟩
theorem ranges_Delete_eq (k : Nat) (x : (List T56) × T56) : ranges_Delete k x = runF ranges_Delete_X k ranges_Delete_c [.one (.row 56 kT56), .agg lT56] x := by kernel_rfl
noncomputable def ranges_Delete_e (k : Nat) : Ent Try.prog := ⟨71, [.one (.row 56 kT56), .agg lT56], [.one (.row 56 kT56), .one (.sc (.int .i64))], ranges_Delete k, calls_of (X := ranges_Delete_X) (k := k) (c := ranges_Delete_c) Try.func71 (by kernel_rfl) (by kernel_rfl) (by kernel_rfl) (LoopEqs.all (show LoopEqs ranges_Delete_X ranges_Delete_c ranges_Delete_X.L 0 from trivial)) (fun x => ranges_Delete_eq k x), fun _ _ => by kernel_rfl⟩
/-! felucca/ranges.Change -/
noncomputable def ranges_Change_c : Code := Try.f72.body.getD .skip
def ranges_Change (k : Nat) : ((List T56) × T56) → Option ((List T56) × Int) := fun (l, r) =>
  (slices_Clone_api_Range_api_Range k l).bind fun o_1 =>
    (BinarySearchFunc_R k (o_1, r, ())).bind fun o_2 =>
      bif o_2.2 then
        bif decide (r.2.2.2.2 < 0) then
          some ((o_1, 1))
        else
          bif decide (2147483647 < r.2.2.2.2) then
            some ((o_1, 1))
          else
            bif decide (0 ≤ o_2.1) then
              bif decide (o_2.1 < Int.ofNat (List.length o_1)) then
                some ((List.set o_1 (Int.toNat o_2.1) ((List.getD o_1 (Int.toNat o_2.1) (0, 0, 0, 0, 0)).1, (List.getD o_1 (Int.toNat o_2.1) (0, 0, 0, 0, 0)).2.1, (List.getD o_1 (Int.toNat o_2.1) (0, 0, 0, 0, 0)).2.2.1, (List.getD o_1 (Int.toNat o_2.1) (0, 0, 0, 0, 0)).2.2.2.1, r.2.2.2.2), 0))
              else
                none
            else
              none
      else
        bif decide (r.2.2.2.2 < 0) then
          some ((o_1, 1))
        else
          bif decide (2147483647 < r.2.2.2.2) then
            some ((o_1, 1))
          else
            some ((o_1, 6))
noncomputable def ranges_Change_X : Cx Try.prog [.one (.row 56 kT56), .one (.sc (.int .i64))] := ⟨fun k => ⟨[slices_Clone_api_Range_api_Range_e k, ranges_Compare_e k, BinarySearchFunc_R_e k], [], []⟩, Try.f72.ntmps, Try.f72.results, []⟩
theorem ranges_Change_eq (k : Nat) (x : (List T56) × T56) : ranges_Change k x = runF ranges_Change_X k ranges_Change_c [.one (.row 56 kT56), .agg lT56] x := by kernel_rfl
noncomputable def ranges_Change_e (k : Nat) : Ent Try.prog := ⟨72, [.one (.row 56 kT56), .agg lT56], [.one (.row 56 kT56), .one (.sc (.int .i64))], ranges_Change k, calls_of (X := ranges_Change_X) (k := k) (c := ranges_Change_c) Try.func72 (by kernel_rfl) (by kernel_rfl) (by kernel_rfl) (LoopEqs.all (show LoopEqs ranges_Change_X ranges_Change_c ranges_Change_X.L 0 from trivial)) (fun x => ranges_Change_eq k x), fun _ _ => by kernel_rfl⟩
/-! felucca/ranges.Expire -/
noncomputable def ranges_Expire_c : Code := Try.f73.body.getD .skip
def ranges_Expire (k : Nat) : ((List T56) × Int) → Option (List T56) := fun (l, now) =>
  (slices_Clone_api_Range_api_Range k l).bind fun o_1 =>
    (DeleteFuncR_ex k o_1 now).bind fun o_2 =>
      some (o_2)
noncomputable def ranges_Expire_X : Cx Try.prog [.one (.row 56 kT56)] := ⟨fun k => ⟨[slices_Clone_api_Range_api_Range_e k], [DeleteFuncR_ex_m k], []⟩, Try.f73.ntmps, Try.f73.results, []⟩
theorem ranges_Expire_eq (k : Nat) (x : (List T56) × Int) : ranges_Expire k x = runF ranges_Expire_X k ranges_Expire_c [.one (.row 56 kT56), .one (.sc (.int .i64))] x := by kernel_rfl
noncomputable def ranges_Expire_e (k : Nat) : Ent Try.prog := ⟨73, [.one (.row 56 kT56), .one (.sc (.int .i64))], [.one (.row 56 kT56)], ranges_Expire k, calls_of (X := ranges_Expire_X) (k := k) (c := ranges_Expire_c) Try.func73 (by kernel_rfl) (by kernel_rfl) (by kernel_rfl) (LoopEqs.all (show LoopEqs ranges_Expire_X ranges_Expire_c ranges_Expire_X.L 0 from trivial)) (fun x => ranges_Expire_eq k x), fun _ _ => by kernel_rfl⟩
/-! felucca/plan.Right -/
noncomputable def plan_Right_c : Code := Try.f36.body.getD .skip
def plan_Right (k : Nat) : T52 → Option (Bool) := fun (p) =>
  bif decide (p.2.2.1 < 0) then
    some (false)
  else
    bif decide (2147483647 < p.2.2.1) then
      some (false)
    else
      bif decide (p.2.2.2 < 0) then
        some (false)
      else
        bif decide (1099511627776 < p.2.2.2) then
          some (false)
        else
          (ContainsFunc_r1 k (p.1, p)).bind fun o_5 =>
            bif o_5 then
              some (false)
            else
              (ContainsFuncR_r2 k (p.2.1, p)).bind fun o_7 =>
                bif o_7 then
                  some (false)
                else
                  (contacts_Right k p.1).bind fun o_9 =>
                    bif o_9 then
                      (ranges_Right k p.2.1).bind fun o_11 =>
                        bif o_11 then
                          some (true)
                        else
                          some (false)
                    else
                      some (false)
noncomputable def plan_Right_X : Cx Try.prog [.one (.sc (.bool))] := ⟨fun k => ⟨[contacts_Right_e k, ContainsFunc_of_e k, ContainsFunc_ov_e k, ContainsFunc_r1_e k, ContainsFuncR_r2_e k, ContainsFuncR_ov_e k, ranges_Right_e k], [], []⟩, Try.f36.ntmps, Try.f36.results, []⟩
theorem plan_Right_eq (k : Nat) (x : T52) : plan_Right k x = runF plan_Right_X k plan_Right_c [.agg lT52] x := by kernel_rfl
noncomputable def plan_Right_e (k : Nat) : Ent Try.prog := ⟨36, [.agg lT52], [.one (.sc (.bool))], plan_Right k, calls_of (X := plan_Right_X) (k := k) (c := plan_Right_c) Try.func36 (by kernel_rfl) (by kernel_rfl) (by kernel_rfl) (LoopEqs.all (show LoopEqs plan_Right_X plan_Right_c plan_Right_X.L 0 from trivial)) (fun x => plan_Right_eq k x), fun _ _ => by kernel_rfl⟩
/-! felucca/plan.Apply -/
noncomputable def plan_Apply_c : Code := Try.f37.body.getD .skip
def plan_Apply (k : Nat) : (T52 × T58) → Option (T52 × Int) := fun (p, d) =>
  (plan_Copy k p).bind fun o_1 =>
    (direct_Right k d).bind fun o_2 =>
      bif o_2 then
        (plan_past k (d, o_1.2.2.1)).bind fun o_4 =>
          bif o_4 then
            some ((o_1, 7))
          else
            bif d.1 == 1 && d.2.1 == 1 then
              (contacts_Add k (o_1.1, d.2.2.1, d.2.2.2.1, d.2.2.2.2.1, d.2.2.2.2.2.1, d.2.2.2.2.2.2.1, d.2.2.2.2.2.2.2.1)).bind fun o_7 =>
                bif !decide (o_7.2 = 0) then
                  some ((o_1, o_7.2))
                else
                  some (((o_7.1, o_1.2.1, o_1.2.2.1, mn (w64 (o_1.2.2.2 + 1)) 1099511627776), 0))
            else
              bif d.1 == 2 && d.2.1 == 1 then
                (contacts_Delete k (o_1.1, d.2.2.1)).bind fun o_8 =>
                  bif !decide (o_8.2 = 0) then
                    some ((o_1, o_8.2))
                  else
                    some (((o_8.1, o_1.2.1, o_1.2.2.1, mn (w64 (o_1.2.2.2 + 1)) 1099511627776), 0))
              else
                bif d.1 == 3 && d.2.1 == 1 then
                  (contacts_Change k (o_1.1, d.2.2.1, d.2.2.2.2.2.2.2.1)).bind fun o_9 =>
                    bif !decide (o_9.2 = 0) then
                      some ((o_1, o_9.2))
                    else
                      some (((o_9.1, o_1.2.1, o_1.2.2.1, mn (w64 (o_1.2.2.2 + 1)) 1099511627776), 0))
                else
                  bif d.1 == 1 && d.2.1 == 2 then
                    (ranges_Add k (o_1.2.1, d.2.2.2.2.2.2.2.2)).bind fun o_10 =>
                      bif !decide (o_10.2 = 0) then
                        some ((o_1, o_10.2))
                      else
                        some (((o_1.1, o_10.1, o_1.2.2.1, mn (w64 (o_1.2.2.2 + 1)) 1099511627776), 0))
                  else
                    bif d.1 == 2 && d.2.1 == 2 then
                      (ranges_Delete k (o_1.2.1, d.2.2.2.2.2.2.2.2)).bind fun o_11 =>
                        bif !decide (o_11.2 = 0) then
                          some ((o_1, o_11.2))
                        else
                          some (((o_1.1, o_11.1, o_1.2.2.1, mn (w64 (o_1.2.2.2 + 1)) 1099511627776), 0))
                    else
                      (ranges_Change k (o_1.2.1, d.2.2.2.2.2.2.2.2)).bind fun o_11 =>
                        bif !decide (o_11.2 = 0) then
                          some ((o_1, o_11.2))
                        else
                          some (((o_1.1, o_11.1, o_1.2.2.1, mn (w64 (o_1.2.2.2 + 1)) 1099511627776), 0))
      else
        some ((o_1, 1))
noncomputable def plan_Apply_X : Cx Try.prog [.agg lT52, .one (.sc (.int .i64))] := ⟨fun k => ⟨[contacts_Add_e k, contacts_Delete_e k, contacts_Change_e k, plan_Copy_e k, direct_Right_e k, plan_past_e k, ranges_Add_e k, ranges_Delete_e k, ranges_Change_e k], [], []⟩, Try.f37.ntmps, Try.f37.results, []⟩
theorem plan_Apply_eq (k : Nat) (x : T52 × T58) : plan_Apply k x = runF plan_Apply_X k plan_Apply_c [.agg lT52, .agg lT58] x := by kernel_rfl
noncomputable def plan_Apply_e (k : Nat) : Ent Try.prog := ⟨37, [.agg lT52, .agg lT58], [.agg lT52, .one (.sc (.int .i64))], plan_Apply k, calls_of (X := plan_Apply_X) (k := k) (c := plan_Apply_c) Try.func37 (by kernel_rfl) (by kernel_rfl) (by kernel_rfl) (LoopEqs.all (show LoopEqs plan_Apply_X plan_Apply_c plan_Apply_X.L 0 from trivial)) (fun x => plan_Apply_eq k x), fun _ _ => by kernel_rfl⟩
/-! felucca/plan.Advance -/
noncomputable def plan_Advance_c : Code := Try.f38.body.getD .skip
def plan_Advance (k : Nat) : (T52 × Int) → Option (T52 × (List Int) × Int) := fun (p, now) =>
  bif decide (now < p.2.2.1) then
    (plan_Copy k p).bind fun o_2 =>
      some ((o_2, [], 7))
  else
    bif decide (2147483647 < now) then
      (plan_Copy k p).bind fun o_3 =>
        some ((o_3, [], 7))
    else
      (contacts_Expire k (p.1, now)).bind fun o_3 =>
        (ranges_Expire k (p.2.1, now)).bind fun o_4 =>
          bif decide (p.2.2.1 < now) then
            some (((o_3.1, o_4, now, mn (w64 (p.2.2.2 + 1)) 1099511627776), o_3.2, 0))
          else
            some (((o_3.1, o_4, now, p.2.2.2), o_3.2, 0))
noncomputable def plan_Advance_X : Cx Try.prog [.agg lT52, .one (.row 3 [.int .i64]), .one (.sc (.int .i64))] := ⟨fun k => ⟨[contacts_Expire_e k, plan_Copy_e k, ranges_Expire_e k], [], []⟩, Try.f38.ntmps, Try.f38.results, []⟩
theorem plan_Advance_eq (k : Nat) (x : T52 × Int) : plan_Advance k x = runF plan_Advance_X k plan_Advance_c [.agg lT52, .one (.sc (.int .i64))] x := by kernel_rfl
noncomputable def plan_Advance_e (k : Nat) : Ent Try.prog := ⟨38, [.agg lT52, .one (.sc (.int .i64))], [.agg lT52, .one (.row 3 [.int .i64]), .one (.sc (.int .i64))], plan_Advance k, calls_of (X := plan_Advance_X) (k := k) (c := plan_Advance_c) Try.func38 (by kernel_rfl) (by kernel_rfl) (by kernel_rfl) (LoopEqs.all (show LoopEqs plan_Advance_X plan_Advance_c plan_Advance_X.L 0 from trivial)) (fun x => plan_Advance_eq k x), fun _ _ => by kernel_rfl⟩
/-! felucca/plan.Same -/
noncomputable def plan_Same_c : Code := Try.f39.body.getD .skip
def plan_Same (k : Nat) : (T52 × T52) → Option (Bool) := fun (a, b) =>
  bif decide (a.2.2.1 = b.2.2.1) then
    bif decide (a.2.2.2 = b.2.2.2) then
      (contacts_Same k (a.1, b.1)).bind fun o_3 =>
        bif o_3 then
          (ranges_Same k (a.2.1, b.2.1)).bind fun o_5 =>
            bif o_5 then
              some (true)
            else
              some (false)
        else
          some (false)
    else
      some (false)
  else
    some (false)
noncomputable def plan_Same_X : Cx Try.prog [.one (.sc (.bool))] := ⟨fun k => ⟨[contacts_Same_e k, ranges_Same_e k], [], []⟩, Try.f39.ntmps, Try.f39.results, []⟩
theorem plan_Same_eq (k : Nat) (x : T52 × T52) : plan_Same k x = runF plan_Same_X k plan_Same_c [.agg lT52, .agg lT52] x := by kernel_rfl
noncomputable def plan_Same_e (k : Nat) : Ent Try.prog := ⟨39, [.agg lT52, .agg lT52], [.one (.sc (.bool))], plan_Same k, calls_of (X := plan_Same_X) (k := k) (c := plan_Same_c) Try.func39 (by kernel_rfl) (by kernel_rfl) (by kernel_rfl) (LoopEqs.all (show LoopEqs plan_Same_X plan_Same_c plan_Same_X.L 0 from trivial)) (fun x => plan_Same_eq k x), fun _ _ => by kernel_rfl⟩
/-! felucca/plan.List -/
noncomputable def plan_List_c : Code := Try.f40.body.getD .skip
def plan_List_L1 : Nat → ((List T58) × (List T28) × Int × Int) → Option ((List T58) ⊕ (List T58))
  | 0, _ => none
  | k + 1, (l, t21, t22, t23) =>
  bif decide (t23 < t22) then
    bif decide (0 ≤ t23) then
      bif decide (t23 < Int.ofNat (List.length t21)) then
        bif decide ((List.length l + List.length [(1, 1, (List.getD t21 (Int.toNat t23) (0, 0, 0, 0, 0, 0)).1, (List.getD t21 (Int.toNat t23) (0, 0, 0, 0, 0, 0)).2.1, (List.getD t21 (Int.toNat t23) (0, 0, 0, 0, 0, 0)).2.2.1, (List.getD t21 (Int.toNat t23) (0, 0, 0, 0, 0, 0)).2.2.2.1, (List.getD t21 (Int.toNat t23) (0, 0, 0, 0, 0, 0)).2.2.2.2.1, (List.getD t21 (Int.toNat t23) (0, 0, 0, 0, 0, 0)).2.2.2.2.2, 0, 0, 0, 0, 0)]) * 104 ≤ 140737488355328) then
          plan_List_L1 k (l ++ [(1, 1, (List.getD t21 (Int.toNat t23) (0, 0, 0, 0, 0, 0)).1, (List.getD t21 (Int.toNat t23) (0, 0, 0, 0, 0, 0)).2.1, (List.getD t21 (Int.toNat t23) (0, 0, 0, 0, 0, 0)).2.2.1, (List.getD t21 (Int.toNat t23) (0, 0, 0, 0, 0, 0)).2.2.2.1, (List.getD t21 (Int.toNat t23) (0, 0, 0, 0, 0, 0)).2.2.2.2.1, (List.getD t21 (Int.toNat t23) (0, 0, 0, 0, 0, 0)).2.2.2.2.2, 0, 0, 0, 0, 0)], t21, t22, w64 (t23 + 1))
        else
          none
      else
        none
    else
      none
  else
    some (Sum.inl l)
def plan_List_L0 : Nat → (T52 × (List T58) × (List T56) × Int × Int) → Option ((T52 × (List T58)) ⊕ (List T58))
  | 0, _ => none
  | k + 1, (p, l, t8, t9, t10) =>
  bif decide (t10 < t9) then
    bif decide (0 ≤ t10) then
      bif decide (t10 < Int.ofNat (List.length t8)) then
        bif decide ((List.length l + List.length [(1, 2, 0, 0, 0, 0, 0, 0, List.getD t8 (Int.toNat t10) (0, 0, 0, 0, 0))]) * 104 ≤ 140737488355328) then
          plan_List_L0 k (p, l ++ [(1, 2, 0, 0, 0, 0, 0, 0, List.getD t8 (Int.toNat t10) (0, 0, 0, 0, 0))], t8, t9, w64 (t10 + 1))
        else
          none
      else
        none
    else
      none
  else
    some (Sum.inl (p, l))
def plan_List (k : Nat) : T52 → Option (List T58) := fun (p) =>
  (plan_List_L0 k (p, [], p.2.1, Int.ofNat (List.length p.2.1), 0)).bind fun o_1 =>
    match o_1 with
    | .inl o_2 =>
      (plan_List_L1 k (o_2.2, o_2.1.1, Int.ofNat (List.length o_2.1.1), 0)).bind fun o_3 =>
        match o_3 with
        | .inl o_4 =>
          some (o_4)
        | .inr o_4 =>
          some (o_4)
    | .inr o_2 =>
      some (o_2)
noncomputable def plan_List_X : Cx Try.prog [.one (.row 58 kT58)] := ⟨fun k => ⟨[], [], []⟩, Try.f40.ntmps, Try.f40.results, [some ⟨0, [(1, .box 52 trT52), (2, .one (.own 58 kT58)), (8, .one (.ro kT56)), (9, .one (.sc (.int .i64))), (10, .one (.sc (.int .i64)))], [(1, .box 52 trT52), (2, .one (.own 58 kT58))], plan_List_L0⟩, some ⟨2, [(2, .one (.own 58 kT58)), (21, .one (.ro kT28)), (22, .one (.sc (.int .i64))), (23, .one (.sc (.int .i64)))], [(2, .one (.own 58 kT58))], plan_List_L1⟩]⟩
theorem plan_List_L1_eq (k : Nat) (x : (List T58) × (List T28) × Int × Int) : plan_List_L1 (k + 1) x = roundF plan_List_X k ⟨2, [(2, .one (.own 58 kT58)), (21, .one (.ro kT28)), (22, .one (.sc (.int .i64))), (23, .one (.sc (.int .i64)))], [(2, .one (.own 58 kT58))], plan_List_L1⟩ 1 (lp plan_List_c 1) x := by kernel_rfl
theorem plan_List_L0_eq (k : Nat) (x : T52 × (List T58) × (List T56) × Int × Int) : plan_List_L0 (k + 1) x = roundF plan_List_X k ⟨0, [(1, .box 52 trT52), (2, .one (.own 58 kT58)), (8, .one (.ro kT56)), (9, .one (.sc (.int .i64))), (10, .one (.sc (.int .i64)))], [(1, .box 52 trT52), (2, .one (.own 58 kT58))], plan_List_L0⟩ 0 (lp plan_List_c 0) x := by kernel_rfl
theorem plan_List_eq (k : Nat) (x : T52) : plan_List k x = runF plan_List_X k plan_List_c [.agg lT52] x := by kernel_rfl
noncomputable def plan_List_e (k : Nat) : Ent Try.prog := ⟨40, [.agg lT52], [.one (.row 58 kT58)], plan_List k, calls_of (X := plan_List_X) (k := k) (c := plan_List_c) Try.func40 (by kernel_rfl) (by kernel_rfl) (by kernel_rfl) (LoopEqs.all (show LoopEqs plan_List_X plan_List_c plan_List_X.L 0 from ⟨⟨fun _ => rfl, fun k x => plan_List_L0_eq k x⟩, ⟨⟨fun _ => rfl, fun k x => plan_List_L1_eq k x⟩, trivial⟩⟩)) (fun x => plan_List_eq k x), fun _ _ => by kernel_rfl⟩
/-! felucca/plan.New -/
noncomputable def plan_New_c : Code := Try.f41.body.getD .skip
def plan_New (k : Nat) : Unit → Option (T52) := fun _ =>
  some (([], [], 0, 0))
noncomputable def plan_New_X : Cx Try.prog [.agg lT52] := ⟨fun k => ⟨[], [], []⟩, Try.f41.ntmps, Try.f41.results, []⟩
theorem plan_New_eq (k : Nat) (x : Unit) : plan_New k x = runF plan_New_X k plan_New_c [] x := by kernel_rfl
noncomputable def plan_New_e (k : Nat) : Ent Try.prog := ⟨41, [], [.agg lT52], plan_New k, calls_of (X := plan_New_X) (k := k) (c := plan_New_c) Try.func41 (by kernel_rfl) (by kernel_rfl) (by kernel_rfl) (LoopEqs.all (show LoopEqs plan_New_X plan_New_c plan_New_X.L 0 from trivial)) (fun x => plan_New_eq k x), fun _ _ => by kernel_rfl⟩
/-! felucca/plan.All -/
noncomputable def plan_All_c : Code := Try.f42.body.getD .skip
def plan_All_L0 : Nat → ((List T58) × T52 × T52 × T52 × (List T58) × Int × Int) → Option (((List T58) × T52 × T52) ⊕ (T52 × Int × Int))
  | 0, _ => none
  | k + 1, (l, p, t4, q, t14, t15, t16) =>
  bif decide (t16 < t15) then
    bif decide (0 ≤ t16) then
      bif decide (t16 < Int.ofNat (List.length t14)) then
        (plan_Apply k (q, List.getD t14 (Int.toNat t16) (0, 0, 0, 0, 0, 0, 0, 0, 0, 0, 0, 0, 0))).bind fun o_4 =>
          bif !decide (o_4.2 = 0) then
            (plan_Copy k p).bind fun o_6 =>
              some (Sum.inr (o_6, t16, o_4.2))
          else
            plan_All_L0 k (l, p, t4, o_4.1, t14, t15, w64 (t16 + 1))
      else
        none
    else
      none
  else
    some (Sum.inl (l, t4, q))
def plan_All (k : Nat) : (T52 × (List T58)) → Option (T52 × Int × Int) := fun (p, l) =>
  (plan_Copy k p).bind fun o_1 =>
    (plan_All_L0 k (l, p, ([], [], 0, 0), o_1, l, Int.ofNat (List.length l), 0)).bind fun o_2 =>
      match o_2 with
      | .inl o_3 =>
        some ((o_3.2.2, Int.ofNat (List.length o_3.1), 0))
      | .inr o_3 =>
        some (o_3)
noncomputable def plan_All_X : Cx Try.prog [.agg lT52, .one (.sc (.int .i64)), .one (.sc (.int .i64))] := ⟨fun k => ⟨[plan_Apply_e k, plan_Copy_e k], [], []⟩, Try.f42.ntmps, Try.f42.results, [some ⟨0, [(1, .one (.ro kT58)), (2, .box 52 trT52), (4, .box 52 toT52), (7, .box 52 toT52), (14, .one (.ro kT58)), (15, .one (.sc (.int .i64))), (16, .one (.sc (.int .i64)))], [(1, .one (.ro kT58)), (4, .box 52 toT52), (7, .box 52 toT52)], plan_All_L0⟩]⟩
theorem plan_All_L0_eq (k : Nat) (x : (List T58) × T52 × T52 × T52 × (List T58) × Int × Int) : plan_All_L0 (k + 1) x = roundF plan_All_X k ⟨0, [(1, .one (.ro kT58)), (2, .box 52 trT52), (4, .box 52 toT52), (7, .box 52 toT52), (14, .one (.ro kT58)), (15, .one (.sc (.int .i64))), (16, .one (.sc (.int .i64)))], [(1, .one (.ro kT58)), (4, .box 52 toT52), (7, .box 52 toT52)], plan_All_L0⟩ 0 (lp plan_All_c 0) x := by kernel_rfl
theorem plan_All_eq (k : Nat) (x : T52 × (List T58)) : plan_All k x = runF plan_All_X k plan_All_c [.agg lT52, .one (.row 58 kT58)] x := by kernel_rfl
noncomputable def plan_All_e (k : Nat) : Ent Try.prog := ⟨42, [.agg lT52, .one (.row 58 kT58)], [.agg lT52, .one (.sc (.int .i64)), .one (.sc (.int .i64))], plan_All k, calls_of (X := plan_All_X) (k := k) (c := plan_All_c) Try.func42 (by kernel_rfl) (by kernel_rfl) (by kernel_rfl) (LoopEqs.all (show LoopEqs plan_All_X plan_All_c plan_All_X.L 0 from ⟨⟨fun _ => rfl, fun k x => plan_All_L0_eq k x⟩, trivial⟩)) (fun x => plan_All_eq k x), fun _ _ => by kernel_rfl⟩
end Go.Proofs.Ytggikacbelogcaa.Ex
