import Derived.Test.YtggikacbelogcaaGreatExY
import Derived.Test.YtggikacbelogcaaGreatExAA
import Derived.Test.YtggikacbelogcaaGreatExCC
import Derived.Test.YtggikacbelogcaaGreatShelf
import Derived.Test.YtggikacbelogcaaGreatProg
namespace Go.Proofs.YtggikacbelogcaaGreat.Ex
open Go
set_option linter.unusedVariables false
set_option maxHeartbeats 0
abbrev T33 := Int × Int × Int × Int × Int × Int
abbrev lT33 : List LK := [.sc (.int .i64), .sc (.int .i64), .sc (.int .i64), .sc (.int .i64), .sc (.int .i64), .sc (.int .i64)]
abbrev toT33 : List TL := [.sc (.int .i64), .sc (.int .i64), .sc (.int .i64), .sc (.int .i64), .sc (.int .i64), .sc (.int .i64)]
abbrev trT33 : List TL := [.sc (.int .i64), .sc (.int .i64), .sc (.int .i64), .sc (.int .i64), .sc (.int .i64), .sc (.int .i64)]
abbrev kT33 : List SK := [.int .i64, .int .i64, .int .i64, .int .i64, .int .i64, .int .i64]
/-! felucca/num.In -/
noncomputable def num_In_c : Code := Tryz.f97.body.getD .skip
def num_In (k : Nat) : (Int × Int × Int) → Option (Bool) := fun (n, low, high) =>
  bif decide (low ≤ n) then
    bif decide (n ≤ high) then
      some (true)
    else
      some (false)
  else
    some (false)
noncomputable def num_In_X : Cx Tryz.prog [.one (.sc (.bool))] := ⟨fun k => ⟨[], [], []⟩, Tryz.f97.ntmps, Tryz.f97.results, []⟩
theorem num_In_eq (k : Nat) (x : Int × Int × Int) : num_In k x = runF num_In_X k num_In_c [.one (.sc (.int .i64)), .one (.sc (.int .i64)), .one (.sc (.int .i64))] x := by kernel_rfl
noncomputable def num_In_e (k : Nat) : Ent Tryz.prog := ⟨97, [.one (.sc (.int .i64)), .one (.sc (.int .i64)), .one (.sc (.int .i64))], [.one (.sc (.bool))], num_In k, calls_of (X := num_In_X) (k := k) (c := num_In_c) Tryz.func97 (by kernel_rfl) (by kernel_rfl) (by kernel_rfl) (LoopEqs.all (show LoopEqs num_In_X num_In_c num_In_X.L 0 from trivial)) (fun x => num_In_eq k x), fun _ _ => by kernel_rfl⟩
/-! felucca/check.Node -/
noncomputable def check_Node_c : Code := Tryz.f114.body.getD .skip
def check_Node (k : Nat) : Int → Option (Bool) := fun (n) =>
  (num_In k (n, 1, 255)).bind fun o_1 =>
    bif o_1 then
      some (true)
    else
      some (false)
noncomputable def check_Node_X : Cx Tryz.prog [.one (.sc (.bool))] := ⟨fun k => ⟨[num_In_e k], [], []⟩, Tryz.f114.ntmps, Tryz.f114.results, []⟩
theorem check_Node_eq (k : Nat) (x : Int) : check_Node k x = runF check_Node_X k check_Node_c [.one (.sc (.int .i64))] x := by kernel_rfl
noncomputable def check_Node_e (k : Nat) : Ent Tryz.prog := ⟨114, [.one (.sc (.int .i64))], [.one (.sc (.bool))], check_Node k, calls_of (X := check_Node_X) (k := k) (c := check_Node_c) Tryz.func114 (by kernel_rfl) (by kernel_rfl) (by kernel_rfl) (LoopEqs.all (show LoopEqs check_Node_X check_Node_c check_Node_X.L 0 from trivial)) (fun x => check_Node_eq k x), fun _ _ => by kernel_rfl⟩
/-! felucca/check.way -/
noncomputable def check_way_c : Code := Tryz.f95.body.getD .skip
def check_way (k : Nat) : (Int × Int) → Option (Bool) := fun (from0, to1) =>
  (check_Node k from0).bind fun o_1 =>
    bif o_1 then
      (check_Node k to1).bind fun o_3 =>
        bif o_3 then
          bif !decide (from0 = to1) then
            some (true)
          else
            some (false)
        else
          some (false)
    else
      some (false)
noncomputable def check_way_X : Cx Tryz.prog [.one (.sc (.bool))] := ⟨fun k => ⟨[check_Node_e k], [], []⟩, Tryz.f95.ntmps, Tryz.f95.results, []⟩
theorem check_way_eq (k : Nat) (x : Int × Int) : check_way k x = runF check_way_X k check_way_c [.one (.sc (.int .i64)), .one (.sc (.int .i64))] x := by kernel_rfl
noncomputable def check_way_e (k : Nat) : Ent Tryz.prog := ⟨95, [.one (.sc (.int .i64)), .one (.sc (.int .i64))], [.one (.sc (.bool))], check_way k, calls_of (X := check_way_X) (k := k) (c := check_way_c) Tryz.func95 (by kernel_rfl) (by kernel_rfl) (by kernel_rfl) (LoopEqs.all (show LoopEqs check_way_X check_way_c check_way_X.L 0 from trivial)) (fun x => check_way_eq k x), fun _ _ => by kernel_rfl⟩
/-! felucca/check.span -/
noncomputable def check_span_c : Code := Tryz.f96.body.getD .skip
def check_span (k : Nat) : (Int × Int) → Option (Bool) := fun (start, end1) =>
  (num_In k (start, 0, w64 (end1 - 1))).bind fun o_1 =>
    bif o_1 then
      (num_In k (end1, 1, 2147483647)).bind fun o_3 =>
        bif o_3 then
          some (true)
        else
          some (false)
    else
      some (false)
noncomputable def check_span_X : Cx Tryz.prog [.one (.sc (.bool))] := ⟨fun k => ⟨[num_In_e k], [], []⟩, Tryz.f96.ntmps, Tryz.f96.results, []⟩
theorem check_span_eq (k : Nat) (x : Int × Int) : check_span k x = runF check_span_X k check_span_c [.one (.sc (.int .i64)), .one (.sc (.int .i64))] x := by kernel_rfl
noncomputable def check_span_e (k : Nat) : Ent Tryz.prog := ⟨96, [.one (.sc (.int .i64)), .one (.sc (.int .i64))], [.one (.sc (.bool))], check_span k, calls_of (X := check_span_X) (k := k) (c := check_span_c) Tryz.func96 (by kernel_rfl) (by kernel_rfl) (by kernel_rfl) (LoopEqs.all (show LoopEqs check_span_X check_span_c check_span_X.L 0 from trivial)) (fun x => check_span_eq k x), fun _ _ => by kernel_rfl⟩
/-! felucca/check.Contact -/
noncomputable def check_Contact_c : Code := Tryz.f60.body.getD .skip
def check_Contact (k : Nat) : T33 → Option (Bool) := fun (c0) =>
  (check_way k (c0.2.1, c0.2.2.1)).bind fun o_1 =>
    bif o_1 then
      (check_span k (c0.2.2.2.1, c0.2.2.2.2.1)).bind fun o_3 =>
        bif o_3 then
          (num_In k (c0.1, 1, 1048576)).bind fun o_5 =>
            bif o_5 then
              (num_In k (c0.2.2.2.2.2, 1, 2147483647)).bind fun o_7 =>
                bif o_7 then
                  some (true)
                else
                  some (false)
            else
              some (false)
        else
          some (false)
    else
      some (false)
noncomputable def check_Contact_X : Cx Tryz.prog [.one (.sc (.bool))] := ⟨fun k => ⟨[check_way_e k, check_span_e k, num_In_e k], [], []⟩, Tryz.f60.ntmps, Tryz.f60.results, []⟩
theorem check_Contact_eq (k : Nat) (x : T33) : check_Contact k x = runF check_Contact_X k check_Contact_c [.agg lT33] x := by kernel_rfl
noncomputable def check_Contact_e (k : Nat) : Ent Tryz.prog := ⟨60, [.agg lT33], [.one (.sc (.bool))], check_Contact k, calls_of (X := check_Contact_X) (k := k) (c := check_Contact_c) Tryz.func60 (by kernel_rfl) (by kernel_rfl) (by kernel_rfl) (LoopEqs.all (show LoopEqs check_Contact_X check_Contact_c check_Contact_X.L 0 from trivial)) (fun x => check_Contact_eq k x), fun _ _ => by kernel_rfl⟩
/-! felucca/contacts.overlap -/
noncomputable def contacts_overlap_c : Code := Tryz.f62.body.getD .skip
def contacts_overlap (k : Nat) : (T33 × T33) → Option (Bool) := fun (a, b) =>
  bif decide (a.2.1 = b.2.1) then
    bif decide (a.2.2.1 = b.2.2.1) then
      bif decide (mx a.2.2.2.1 b.2.2.2.1 < mn a.2.2.2.2.1 b.2.2.2.2.1) then
        some (true)
      else
        some (false)
    else
      some (false)
  else
    some (false)
noncomputable def contacts_overlap_X : Cx Tryz.prog [.one (.sc (.bool))] := ⟨fun k => ⟨[], [], []⟩, Tryz.f62.ntmps, Tryz.f62.results, []⟩
theorem contacts_overlap_eq (k : Nat) (x : T33 × T33) : contacts_overlap k x = runF contacts_overlap_X k contacts_overlap_c [.agg lT33, .agg lT33] x := by kernel_rfl
noncomputable def contacts_overlap_e (k : Nat) : Ent Tryz.prog := ⟨62, [.agg lT33, .agg lT33], [.one (.sc (.bool))], contacts_overlap k, calls_of (X := contacts_overlap_X) (k := k) (c := contacts_overlap_c) Tryz.func62 (by kernel_rfl) (by kernel_rfl) (by kernel_rfl) (LoopEqs.all (show LoopEqs contacts_overlap_X contacts_overlap_c contacts_overlap_X.L 0 from trivial)) (fun x => contacts_overlap_eq k x), fun _ _ => by kernel_rfl⟩
/-! cmp.isNaN[int] -/
noncomputable def cmp_isNaN_int_c : Code := Tryz.f115.body.getD .skip
def cmp_isNaN_int (k : Nat) : Int → Option (Bool) := fun (x0) =>
  bif !decide (x0 = x0) then
    some (true)
  else
    some (false)
noncomputable def cmp_isNaN_int_X : Cx Tryz.prog [.one (.sc (.bool))] := ⟨fun k => ⟨[], [], []⟩, Tryz.f115.ntmps, Tryz.f115.results, []⟩
theorem cmp_isNaN_int_eq (k : Nat) (x : Int) : cmp_isNaN_int k x = runF cmp_isNaN_int_X k cmp_isNaN_int_c [.one (.sc (.int .i64))] x := by kernel_rfl
noncomputable def cmp_isNaN_int_e (k : Nat) : Ent Tryz.prog := ⟨115, [.one (.sc (.int .i64))], [.one (.sc (.bool))], cmp_isNaN_int k, calls_of (X := cmp_isNaN_int_X) (k := k) (c := cmp_isNaN_int_c) Tryz.func115 (by kernel_rfl) (by kernel_rfl) (by kernel_rfl) (LoopEqs.all (show LoopEqs cmp_isNaN_int_X cmp_isNaN_int_c cmp_isNaN_int_X.L 0 from trivial)) (fun x => cmp_isNaN_int_eq k x), fun _ _ => by kernel_rfl⟩
/-! cmp.Compare[int] -/
noncomputable def cmp_Compare_int_c : Code := Tryz.f99.body.getD .skip
def cmp_Compare_int (k : Nat) : (Int × Int) → Option (Int) := fun (x0, y1) =>
  (cmp_isNaN_int k x0).bind fun o_1 =>
    bif o_1 then
      (cmp_isNaN_int k y1).bind fun o_3 =>
        bif o_3 then
          some (0)
        else
          some (-1)
    else
      (cmp_isNaN_int k y1).bind fun o_3 =>
        bif o_3 then
          some (1)
        else
          bif decide (x0 < y1) then
            some (-1)
          else
            bif decide (y1 < x0) then
              some (1)
            else
              some (0)
noncomputable def cmp_Compare_int_X : Cx Tryz.prog [.one (.sc (.int .i64))] := ⟨fun k => ⟨[cmp_isNaN_int_e k], [], []⟩, Tryz.f99.ntmps, Tryz.f99.results, []⟩
theorem cmp_Compare_int_eq (k : Nat) (x : Int × Int) : cmp_Compare_int k x = runF cmp_Compare_int_X k cmp_Compare_int_c [.one (.sc (.int .i64)), .one (.sc (.int .i64))] x := by kernel_rfl
noncomputable def cmp_Compare_int_e (k : Nat) : Ent Tryz.prog := ⟨99, [.one (.sc (.int .i64)), .one (.sc (.int .i64))], [.one (.sc (.int .i64))], cmp_Compare_int k, calls_of (X := cmp_Compare_int_X) (k := k) (c := cmp_Compare_int_c) Tryz.func99 (by kernel_rfl) (by kernel_rfl) (by kernel_rfl) (LoopEqs.all (show LoopEqs cmp_Compare_int_X cmp_Compare_int_c cmp_Compare_int_X.L 0 from trivial)) (fun x => cmp_Compare_int_eq k x), fun _ _ => by kernel_rfl⟩
/-! cmp.Or[int] -/
noncomputable def cmp_Or_int_c : Code := Tryz.f98.body.getD .skip
def cmp_Or_int_L0 : Nat → (Int × (List Int) × Int × Int) → Option ((Int) ⊕ (Int))
  | 0, _ => none
  | k + 1, (zero, t6, t7, t8) =>
  bif decide (t8 < t7) then
    bif decide (0 ≤ t8) then
      bif decide (t8 < Int.ofNat (List.length t6)) then
        bif !decide (List.getD t6 (Int.toNat t8) 0 = zero) then
          some (Sum.inr (List.getD t6 (Int.toNat t8) 0))
        else
          cmp_Or_int_L0 k (zero, t6, t7, w64 (t8 + 1))
      else
        none
    else
      none
  else
    some (Sum.inl zero)
def cmp_Or_int (k : Nat) : (List Int) → Option (Int) := fun (vals) =>
  (cmp_Or_int_L0 k (0, vals, Int.ofNat (List.length vals), 0)).bind fun o_1 =>
    match o_1 with
    | .inl o_2 =>
      some (o_2)
    | .inr o_2 =>
      some (o_2)
noncomputable def cmp_Or_int_X : Cx Tryz.prog [.one (.sc (.int .i64))] := ⟨fun k => ⟨[], [], []⟩, Tryz.f98.ntmps, Tryz.f98.results, [some ⟨0, [(3, .one (.sc (.int .i64))), (6, .one (.ro [.int .i64])), (7, .one (.sc (.int .i64))), (8, .one (.sc (.int .i64)))], [(3, .one (.sc (.int .i64)))], cmp_Or_int_L0⟩]⟩
theorem cmp_Or_int_L0_eq (k : Nat) (x : Int × (List Int) × Int × Int) : cmp_Or_int_L0 (k + 1) x = roundF cmp_Or_int_X k ⟨0, [(3, .one (.sc (.int .i64))), (6, .one (.ro [.int .i64])), (7, .one (.sc (.int .i64))), (8, .one (.sc (.int .i64)))], [(3, .one (.sc (.int .i64)))], cmp_Or_int_L0⟩ 0 (lp cmp_Or_int_c 0) x := by kernel_rfl
theorem cmp_Or_int_eq (k : Nat) (x : List Int) : cmp_Or_int k x = runF cmp_Or_int_X k cmp_Or_int_c [.one (.row 3 [.int .i64])] x := by kernel_rfl
noncomputable def cmp_Or_int_e (k : Nat) : Ent Tryz.prog := ⟨98, [.one (.row 3 [.int .i64])], [.one (.sc (.int .i64))], cmp_Or_int k, calls_of (X := cmp_Or_int_X) (k := k) (c := cmp_Or_int_c) Tryz.func98 (by kernel_rfl) (by kernel_rfl) (by kernel_rfl) (LoopEqs.all (show LoopEqs cmp_Or_int_X cmp_Or_int_c cmp_Or_int_X.L 0 from ⟨⟨fun _ => rfl, fun k x => cmp_Or_int_L0_eq k x⟩, trivial⟩)) (fun x => cmp_Or_int_eq k x), fun _ _ => by kernel_rfl⟩
/-! felucca/contacts.Compare -/
noncomputable def contacts_Compare_c : Code := Tryz.f61.body.getD .skip
def contacts_Compare (k : Nat) : (T33 × T33) → Option (Int) := fun (a, b) =>
  (cmp_Compare_int k (a.2.1, b.2.1)).bind fun o_1 =>
    (cmp_Compare_int k (a.2.2.1, b.2.2.1)).bind fun o_2 =>
      (cmp_Compare_int k (a.2.2.2.1, b.2.2.2.1)).bind fun o_3 =>
        (cmp_Compare_int k (a.1, b.1)).bind fun o_4 =>
          (cmp_Or_int k [o_1, o_2, o_3, o_4]).bind fun o_5 =>
            some (o_5)
noncomputable def contacts_Compare_X : Cx Tryz.prog [.one (.sc (.int .i64))] := ⟨fun k => ⟨[cmp_Or_int_e k, cmp_Compare_int_e k], [], []⟩, Tryz.f61.ntmps, Tryz.f61.results, []⟩
theorem contacts_Compare_eq (k : Nat) (x : T33 × T33) : contacts_Compare k x = runF contacts_Compare_X k contacts_Compare_c [.agg lT33, .agg lT33] x := by kernel_rfl
noncomputable def contacts_Compare_e (k : Nat) : Ent Tryz.prog := ⟨61, [.agg lT33, .agg lT33], [.one (.sc (.int .i64))], contacts_Compare k, calls_of (X := contacts_Compare_X) (k := k) (c := contacts_Compare_c) Tryz.func61 (by kernel_rfl) (by kernel_rfl) (by kernel_rfl) (LoopEqs.all (show LoopEqs contacts_Compare_X contacts_Compare_c contacts_Compare_X.L 0 from trivial)) (fun x => contacts_Compare_eq k x), fun _ _ => by kernel_rfl⟩
/-! slices.Equal[[]felucca/api.Contact,felucca/api.Contact] -/
noncomputable def slices_Equal_api_Contact_api_Contact_c : Code := Tryz.f72.body.getD .skip
def slices_Equal_api_Contact_api_Contact_L0 : Nat → ((List T33) × (List T33) × Int × Int) → Option ((Unit) ⊕ (Bool))
  | 0, _ => none
  | k + 1, (s1, s2, t12, t13) =>
  bif decide (t13 < t12) then
    bif decide (0 ≤ t13) then
      bif decide (t13 < Int.ofNat (List.length s1)) then
        bif decide (0 ≤ t13) then
          bif decide (t13 < Int.ofNat (List.length s2)) then
            bif !((List.getD s1 (Int.toNat t13) (0, 0, 0, 0, 0, 0)).1 == (List.getD s2 (Int.toNat t13) (0, 0, 0, 0, 0, 0)).1 && ((List.getD s1 (Int.toNat t13) (0, 0, 0, 0, 0, 0)).2.1 == (List.getD s2 (Int.toNat t13) (0, 0, 0, 0, 0, 0)).2.1 && ((List.getD s1 (Int.toNat t13) (0, 0, 0, 0, 0, 0)).2.2.1 == (List.getD s2 (Int.toNat t13) (0, 0, 0, 0, 0, 0)).2.2.1 && ((List.getD s1 (Int.toNat t13) (0, 0, 0, 0, 0, 0)).2.2.2.1 == (List.getD s2 (Int.toNat t13) (0, 0, 0, 0, 0, 0)).2.2.2.1 && ((List.getD s1 (Int.toNat t13) (0, 0, 0, 0, 0, 0)).2.2.2.2.1 == (List.getD s2 (Int.toNat t13) (0, 0, 0, 0, 0, 0)).2.2.2.2.1 && (List.getD s1 (Int.toNat t13) (0, 0, 0, 0, 0, 0)).2.2.2.2.2 == (List.getD s2 (Int.toNat t13) (0, 0, 0, 0, 0, 0)).2.2.2.2.2))))) then
              some (Sum.inr false)
            else
              slices_Equal_api_Contact_api_Contact_L0 k (s1, s2, t12, w64 (t13 + 1))
          else
            none
        else
          none
      else
        none
    else
      none
  else
    some (Sum.inl ())
def slices_Equal_api_Contact_api_Contact (k : Nat) : ((List T33) × (List T33)) → Option (Bool) := fun (s1, s2) =>
  bif !decide (Int.ofNat (List.length s1) = Int.ofNat (List.length s2)) then
    some (false)
  else
    (slices_Equal_api_Contact_api_Contact_L0 k (s1, s2, Int.ofNat (List.length s1), 0)).bind fun o_2 =>
      match o_2 with
      | .inl o_3 =>
        some (true)
      | .inr o_3 =>
        some (o_3)
noncomputable def slices_Equal_api_Contact_api_Contact_X : Cx Tryz.prog [.one (.sc (.bool))] := ⟨fun k => ⟨[], [], []⟩, Tryz.f72.ntmps, Tryz.f72.results, [some ⟨0, [(0, .one (.ro kT33)), (1, .one (.ro kT33)), (12, .one (.sc (.int .i64))), (13, .one (.sc (.int .i64)))], [], slices_Equal_api_Contact_api_Contact_L0⟩]⟩
theorem slices_Equal_api_Contact_api_Contact_L0_eq (k : Nat) (x : (List T33) × (List T33) × Int × Int) : slices_Equal_api_Contact_api_Contact_L0 (k + 1) x = roundF slices_Equal_api_Contact_api_Contact_X k ⟨0, [(0, .one (.ro kT33)), (1, .one (.ro kT33)), (12, .one (.sc (.int .i64))), (13, .one (.sc (.int .i64)))], [], slices_Equal_api_Contact_api_Contact_L0⟩ 0 (lp slices_Equal_api_Contact_api_Contact_c 0) x := by kernel_rfl
theorem slices_Equal_api_Contact_api_Contact_eq (k : Nat) (x : (List T33) × (List T33)) : slices_Equal_api_Contact_api_Contact k x = runF slices_Equal_api_Contact_api_Contact_X k slices_Equal_api_Contact_api_Contact_c [.one (.row 33 kT33), .one (.row 33 kT33)] x := by kernel_rfl
noncomputable def slices_Equal_api_Contact_api_Contact_e (k : Nat) : Ent Tryz.prog := ⟨72, [.one (.row 33 kT33), .one (.row 33 kT33)], [.one (.sc (.bool))], slices_Equal_api_Contact_api_Contact k, calls_of (X := slices_Equal_api_Contact_api_Contact_X) (k := k) (c := slices_Equal_api_Contact_api_Contact_c) Tryz.func72 (by kernel_rfl) (by kernel_rfl) (by kernel_rfl) (LoopEqs.all (show LoopEqs slices_Equal_api_Contact_api_Contact_X slices_Equal_api_Contact_api_Contact_c slices_Equal_api_Contact_api_Contact_X.L 0 from ⟨⟨fun _ => rfl, fun k x => slices_Equal_api_Contact_api_Contact_L0_eq k x⟩, trivial⟩)) (fun x => slices_Equal_api_Contact_api_Contact_eq k x), fun _ _ => by kernel_rfl⟩
/-! felucca/feluccaref03.Node -/
noncomputable def feluccaref03_Node_c : Code := Tryz.f116.body.getD .skip
def feluccaref03_Node (k : Nat) : Int → Option (Bool) := fun (n) =>
  bif decide (1 ≤ n) then
    bif decide (n ≤ 255) then
      some (true)
    else
      some (false)
  else
    some (false)
noncomputable def feluccaref03_Node_X : Cx Tryz.prog [.one (.sc (.bool))] := ⟨fun k => ⟨[], [], []⟩, Tryz.f116.ntmps, Tryz.f116.results, []⟩
theorem feluccaref03_Node_eq (k : Nat) (x : Int) : feluccaref03_Node k x = runF feluccaref03_Node_X k feluccaref03_Node_c [.one (.sc (.int .i64))] x := by kernel_rfl
noncomputable def feluccaref03_Node_e (k : Nat) : Ent Tryz.prog := ⟨116, [.one (.sc (.int .i64))], [.one (.sc (.bool))], feluccaref03_Node k, calls_of (X := feluccaref03_Node_X) (k := k) (c := feluccaref03_Node_c) Tryz.func116 (by kernel_rfl) (by kernel_rfl) (by kernel_rfl) (LoopEqs.all (show LoopEqs feluccaref03_Node_X feluccaref03_Node_c feluccaref03_Node_X.L 0 from trivial)) (fun x => feluccaref03_Node_eq k x), fun _ _ => by kernel_rfl⟩
/-! felucca/feluccaref03.pair -/
noncomputable def feluccaref03_pair_c : Code := Tryz.f100.body.getD .skip
def feluccaref03_pair (k : Nat) : (Int × Int × Int × Int) → Option (Bool) := fun (from0, to1, start, end3) =>
  (feluccaref03_Node k from0).bind fun o_1 =>
    bif o_1 then
      (feluccaref03_Node k to1).bind fun o_3 =>
        bif o_3 then
          bif !decide (from0 = to1) then
            bif decide (0 ≤ start) then
              bif decide (start < end3) then
                bif decide (end3 ≤ 2147483647) then
                  some (true)
                else
                  some (false)
              else
                some (false)
            else
              some (false)
          else
            some (false)
        else
          some (false)
    else
      (feluccaref03_Node k to1).bind fun o_3 =>
        bif o_3 then
          some (false)
        else
          some (false)
noncomputable def feluccaref03_pair_X : Cx Tryz.prog [.one (.sc (.bool))] := ⟨fun k => ⟨[feluccaref03_Node_e k], [], []⟩, Tryz.f100.ntmps, Tryz.f100.results, []⟩
theorem feluccaref03_pair_eq (k : Nat) (x : Int × Int × Int × Int) : feluccaref03_pair k x = runF feluccaref03_pair_X k feluccaref03_pair_c [.one (.sc (.int .i64)), .one (.sc (.int .i64)), .one (.sc (.int .i64)), .one (.sc (.int .i64))] x := by kernel_rfl
noncomputable def feluccaref03_pair_e (k : Nat) : Ent Tryz.prog := ⟨100, [.one (.sc (.int .i64)), .one (.sc (.int .i64)), .one (.sc (.int .i64)), .one (.sc (.int .i64))], [.one (.sc (.bool))], feluccaref03_pair k, calls_of (X := feluccaref03_pair_X) (k := k) (c := feluccaref03_pair_c) Tryz.func100 (by kernel_rfl) (by kernel_rfl) (by kernel_rfl) (LoopEqs.all (show LoopEqs feluccaref03_pair_X feluccaref03_pair_c feluccaref03_pair_X.L 0 from trivial)) (fun x => feluccaref03_pair_eq k x), fun _ _ => by kernel_rfl⟩
/-! felucca/feluccaref03.Contact -/
noncomputable def feluccaref03_Contact_c : Code := Tryz.f66.body.getD .skip
def feluccaref03_Contact (k : Nat) : T33 → Option (Bool) := fun (c0) =>
  (feluccaref03_pair k (c0.2.1, c0.2.2.1, c0.2.2.2.1, c0.2.2.2.2.1)).bind fun o_1 =>
    bif o_1 then
      bif decide (1 ≤ c0.1) then
        bif decide (c0.1 ≤ 1048576) then
          bif decide (1 ≤ c0.2.2.2.2.2) then
            bif decide (c0.2.2.2.2.2 ≤ 2147483647) then
              some (true)
            else
              some (false)
          else
            some (false)
        else
          some (false)
      else
        some (false)
    else
      some (false)
noncomputable def feluccaref03_Contact_X : Cx Tryz.prog [.one (.sc (.bool))] := ⟨fun k => ⟨[feluccaref03_pair_e k], [], []⟩, Tryz.f66.ntmps, Tryz.f66.results, []⟩
theorem feluccaref03_Contact_eq (k : Nat) (x : T33) : feluccaref03_Contact k x = runF feluccaref03_Contact_X k feluccaref03_Contact_c [.agg lT33] x := by kernel_rfl
noncomputable def feluccaref03_Contact_e (k : Nat) : Ent Tryz.prog := ⟨66, [.agg lT33], [.one (.sc (.bool))], feluccaref03_Contact k, calls_of (X := feluccaref03_Contact_X) (k := k) (c := feluccaref03_Contact_c) Tryz.func66 (by kernel_rfl) (by kernel_rfl) (by kernel_rfl) (LoopEqs.all (show LoopEqs feluccaref03_Contact_X feluccaref03_Contact_c feluccaref03_Contact_X.L 0 from trivial)) (fun x => feluccaref03_Contact_eq k x), fun _ _ => by kernel_rfl⟩
/-! felucca/feluccaref06.less -/
noncomputable def feluccaref06_less_c : Code := Tryz.f67.body.getD .skip
def feluccaref06_less (k : Nat) : (T33 × T33) → Option (Bool) := fun (a, b) =>
  bif !decide (a.2.1 = b.2.1) then
    bif decide (a.2.1 < b.2.1) then
      some (true)
    else
      some (false)
  else
    bif !decide (a.2.2.1 = b.2.2.1) then
      bif decide (a.2.2.1 < b.2.2.1) then
        some (true)
      else
        some (false)
    else
      bif !decide (a.2.2.2.1 = b.2.2.2.1) then
        bif decide (a.2.2.2.1 < b.2.2.2.1) then
          some (true)
        else
          some (false)
      else
        bif decide (a.1 < b.1) then
          some (true)
        else
          some (false)
noncomputable def feluccaref06_less_X : Cx Tryz.prog [.one (.sc (.bool))] := ⟨fun k => ⟨[], [], []⟩, Tryz.f67.ntmps, Tryz.f67.results, []⟩
theorem feluccaref06_less_eq (k : Nat) (x : T33 × T33) : feluccaref06_less k x = runF feluccaref06_less_X k feluccaref06_less_c [.agg lT33, .agg lT33] x := by kernel_rfl
noncomputable def feluccaref06_less_e (k : Nat) : Ent Tryz.prog := ⟨67, [.agg lT33, .agg lT33], [.one (.sc (.bool))], feluccaref06_less k, calls_of (X := feluccaref06_less_X) (k := k) (c := feluccaref06_less_c) Tryz.func67 (by kernel_rfl) (by kernel_rfl) (by kernel_rfl) (LoopEqs.all (show LoopEqs feluccaref06_less_X feluccaref06_less_c feluccaref06_less_X.L 0 from trivial)) (fun x => feluccaref06_less_eq k x), fun _ _ => by kernel_rfl⟩
/-! felucca/feluccaref06.overlap -/
noncomputable def feluccaref06_overlap_c : Code := Tryz.f68.body.getD .skip
def feluccaref06_overlap (k : Nat) : (T33 × T33) → Option (Bool) := fun (a, b) =>
  bif decide (a.2.1 = b.2.1) then
    bif decide (a.2.2.1 = b.2.2.1) then
      bif decide (a.2.2.2.1 < b.2.2.2.2.1) then
        bif decide (b.2.2.2.1 < a.2.2.2.2.1) then
          some (true)
        else
          some (false)
      else
        some (false)
    else
      some (false)
  else
    some (false)
noncomputable def feluccaref06_overlap_X : Cx Tryz.prog [.one (.sc (.bool))] := ⟨fun k => ⟨[], [], []⟩, Tryz.f68.ntmps, Tryz.f68.results, []⟩
theorem feluccaref06_overlap_eq (k : Nat) (x : T33 × T33) : feluccaref06_overlap k x = runF feluccaref06_overlap_X k feluccaref06_overlap_c [.agg lT33, .agg lT33] x := by kernel_rfl
noncomputable def feluccaref06_overlap_e (k : Nat) : Ent Tryz.prog := ⟨68, [.agg lT33, .agg lT33], [.one (.sc (.bool))], feluccaref06_overlap k, calls_of (X := feluccaref06_overlap_X) (k := k) (c := feluccaref06_overlap_c) Tryz.func68 (by kernel_rfl) (by kernel_rfl) (by kernel_rfl) (LoopEqs.all (show LoopEqs feluccaref06_overlap_X feluccaref06_overlap_c feluccaref06_overlap_X.L 0 from trivial)) (fun x => feluccaref06_overlap_eq k x), fun _ _ => by kernel_rfl⟩
/-! felucca/feluccaref06.Right -/
noncomputable def feluccaref06_Right_c : Code := Tryz.f31.body.getD .skip
def feluccaref06_Right_L1 : Nat → ((List T33) × Int × Int) → Option (((List T33) × Int) ⊕ (Bool))
  | 0, _ => none
  | k + 1, (l, i, k5) =>
  bif decide (k5 < i) then
    bif decide (0 ≤ k5) then
      bif decide (k5 < Int.ofNat (List.length l)) then
        bif decide (0 ≤ i) then
          bif decide (i < Int.ofNat (List.length l)) then
            bif decide ((List.getD l (Int.toNat k5) (0, 0, 0, 0, 0, 0)).1 = (List.getD l (Int.toNat i) (0, 0, 0, 0, 0, 0)).1) then
              some (Sum.inr false)
            else
              bif decide (0 ≤ k5) then
                bif decide (k5 < Int.ofNat (List.length l)) then
                  bif decide (0 ≤ i) then
                    bif decide (i < Int.ofNat (List.length l)) then
                      (feluccaref06_overlap k (List.getD l (Int.toNat k5) (0, 0, 0, 0, 0, 0), List.getD l (Int.toNat i) (0, 0, 0, 0, 0, 0))).bind fun o_11 =>
                        bif o_11 then
                          some (Sum.inr false)
                        else
                          feluccaref06_Right_L1 k (l, i, w64 (k5 + 1))
                    else
                      none
                  else
                    none
                else
                  none
              else
                none
          else
            none
        else
          none
      else
        none
    else
      none
  else
    some (Sum.inl (l, i))
def feluccaref06_Right_L0 : Nat → ((List T33) × Int) → Option ((List T33) ⊕ (Bool))
  | 0, _ => none
  | k + 1, (l, i) =>
  bif decide (i < Int.ofNat (List.length l)) then
    bif decide (0 ≤ i) then
      bif decide (i < Int.ofNat (List.length l)) then
        (feluccaref03_Contact k (List.getD l (Int.toNat i) (0, 0, 0, 0, 0, 0))).bind fun o_4 =>
          bif o_4 then
            bif decide (0 < i) then
              bif decide (0 ≤ w64 (i - 1)) then
                bif decide (w64 (i - 1) < Int.ofNat (List.length l)) then
                  bif decide (0 ≤ i) then
                    bif decide (i < Int.ofNat (List.length l)) then
                      (feluccaref06_less k (List.getD l (Int.toNat (w64 (i - 1))) (0, 0, 0, 0, 0, 0), List.getD l (Int.toNat i) (0, 0, 0, 0, 0, 0))).bind fun o_11 =>
                        bif o_11 then
                          (feluccaref06_Right_L1 k (l, i, 0)).bind fun o_13 =>
                            match o_13 with
                            | .inl o_14 =>
                              feluccaref06_Right_L0 k (o_14.1, w64 (o_14.2 + 1))
                            | .inr o_14 =>
                              some (Sum.inr o_14)
                        else
                          some (Sum.inr false)
                    else
                      none
                  else
                    none
                else
                  none
              else
                none
            else
              (feluccaref06_Right_L1 k (l, i, 0)).bind fun o_7 =>
                match o_7 with
                | .inl o_8 =>
                  feluccaref06_Right_L0 k (o_8.1, w64 (o_8.2 + 1))
                | .inr o_8 =>
                  some (Sum.inr o_8)
          else
            some (Sum.inr false)
      else
        none
    else
      none
  else
    some (Sum.inl l)
def feluccaref06_Right (k : Nat) : (List T33) → Option (Bool) := fun (l) =>
  (feluccaref06_Right_L0 k (l, 0)).bind fun o_1 =>
    match o_1 with
    | .inl o_2 =>
      bif decide (Int.ofNat (List.length o_2) ≤ 4096) then
        some (true)
      else
        some (false)
    | .inr o_2 =>
      some (o_2)
noncomputable def feluccaref06_Right_X : Cx Tryz.prog [.one (.sc (.bool))] := ⟨fun k => ⟨[feluccaref03_Contact_e k, feluccaref06_less_e k, feluccaref06_overlap_e k], [], []⟩, Tryz.f31.ntmps, Tryz.f31.results, [some ⟨0, [(0, .one (.ro kT33)), (3, .one (.sc (.int .i64)))], [(0, .one (.ro kT33))], feluccaref06_Right_L0⟩, some ⟨2, [(0, .one (.ro kT33)), (3, .one (.sc (.int .i64))), (5, .one (.sc (.int .i64)))], [(0, .one (.ro kT33)), (3, .one (.sc (.int .i64)))], feluccaref06_Right_L1⟩]⟩
theorem feluccaref06_Right_L1_eq (k : Nat) (x : (List T33) × Int × Int) : feluccaref06_Right_L1 (k + 1) x = roundF feluccaref06_Right_X k ⟨2, [(0, .one (.ro kT33)), (3, .one (.sc (.int .i64))), (5, .one (.sc (.int .i64)))], [(0, .one (.ro kT33)), (3, .one (.sc (.int .i64)))], feluccaref06_Right_L1⟩ 1 (lp feluccaref06_Right_c 1) x := by kernel_rfl
theorem feluccaref06_Right_L0_eq (k : Nat) (x : (List T33) × Int) : feluccaref06_Right_L0 (k + 1) x = roundF feluccaref06_Right_X k ⟨0, [(0, .one (.ro kT33)), (3, .one (.sc (.int .i64)))], [(0, .one (.ro kT33))], feluccaref06_Right_L0⟩ 0 (lp feluccaref06_Right_c 0) x := by kernel_rfl
theorem feluccaref06_Right_eq (k : Nat) (x : List T33) : feluccaref06_Right k x = runF feluccaref06_Right_X k feluccaref06_Right_c [.one (.row 33 kT33)] x := by kernel_rfl
noncomputable def feluccaref06_Right_e (k : Nat) : Ent Tryz.prog := ⟨31, [.one (.row 33 kT33)], [.one (.sc (.bool))], feluccaref06_Right k, calls_of (X := feluccaref06_Right_X) (k := k) (c := feluccaref06_Right_c) Tryz.func31 (by kernel_rfl) (by kernel_rfl) (by kernel_rfl) (LoopEqs.all (show LoopEqs feluccaref06_Right_X feluccaref06_Right_c feluccaref06_Right_X.L 0 from ⟨⟨fun _ => rfl, fun k x => feluccaref06_Right_L0_eq k x⟩, ⟨⟨fun _ => rfl, fun k x => feluccaref06_Right_L1_eq k x⟩, trivial⟩⟩)) (fun x => feluccaref06_Right_eq k x), fun _ _ => by kernel_rfl⟩
/-! felucca/feluccaref06.Same -/
noncomputable def feluccaref06_Same_c : Code := Tryz.f35.body.getD .skip
def feluccaref06_Same_L0 : Nat → ((List T33) × (List T33) × Int) → Option ((Unit) ⊕ (Bool))
  | 0, _ => none
  | k + 1, (a, b, i) =>
  bif decide (i < Int.ofNat (List.length a)) then
    bif decide (0 ≤ i) then
      bif decide (i < Int.ofNat (List.length a)) then
        bif decide (0 ≤ i) then
          bif decide (i < Int.ofNat (List.length b)) then
            bif !((List.getD a (Int.toNat i) (0, 0, 0, 0, 0, 0)).1 == (List.getD b (Int.toNat i) (0, 0, 0, 0, 0, 0)).1 && ((List.getD a (Int.toNat i) (0, 0, 0, 0, 0, 0)).2.1 == (List.getD b (Int.toNat i) (0, 0, 0, 0, 0, 0)).2.1 && ((List.getD a (Int.toNat i) (0, 0, 0, 0, 0, 0)).2.2.1 == (List.getD b (Int.toNat i) (0, 0, 0, 0, 0, 0)).2.2.1 && ((List.getD a (Int.toNat i) (0, 0, 0, 0, 0, 0)).2.2.2.1 == (List.getD b (Int.toNat i) (0, 0, 0, 0, 0, 0)).2.2.2.1 && ((List.getD a (Int.toNat i) (0, 0, 0, 0, 0, 0)).2.2.2.2.1 == (List.getD b (Int.toNat i) (0, 0, 0, 0, 0, 0)).2.2.2.2.1 && (List.getD a (Int.toNat i) (0, 0, 0, 0, 0, 0)).2.2.2.2.2 == (List.getD b (Int.toNat i) (0, 0, 0, 0, 0, 0)).2.2.2.2.2))))) then
              some (Sum.inr false)
            else
              feluccaref06_Same_L0 k (a, b, w64 (i + 1))
          else
            none
        else
          none
      else
        none
    else
      none
  else
    some (Sum.inl ())
def feluccaref06_Same (k : Nat) : ((List T33) × (List T33)) → Option (Bool) := fun (a, b) =>
  bif !decide (Int.ofNat (List.length a) = Int.ofNat (List.length b)) then
    some (false)
  else
    (feluccaref06_Same_L0 k (a, b, 0)).bind fun o_2 =>
      match o_2 with
      | .inl o_3 =>
        some (true)
      | .inr o_3 =>
        some (o_3)
noncomputable def feluccaref06_Same_X : Cx Tryz.prog [.one (.sc (.bool))] := ⟨fun k => ⟨[], [], []⟩, Tryz.f35.ntmps, Tryz.f35.results, [some ⟨0, [(0, .one (.ro kT33)), (1, .one (.ro kT33)), (5, .one (.sc (.int .i64)))], [], feluccaref06_Same_L0⟩]⟩
theorem feluccaref06_Same_L0_eq (k : Nat) (x : (List T33) × (List T33) × Int) : feluccaref06_Same_L0 (k + 1) x = roundF feluccaref06_Same_X k ⟨0, [(0, .one (.ro kT33)), (1, .one (.ro kT33)), (5, .one (.sc (.int .i64)))], [], feluccaref06_Same_L0⟩ 0 (lp feluccaref06_Same_c 0) x := by kernel_rfl
theorem feluccaref06_Same_eq (k : Nat) (x : (List T33) × (List T33)) : feluccaref06_Same k x = runF feluccaref06_Same_X k feluccaref06_Same_c [.one (.row 33 kT33), .one (.row 33 kT33)] x := by kernel_rfl
noncomputable def feluccaref06_Same_e (k : Nat) : Ent Tryz.prog := ⟨35, [.one (.row 33 kT33), .one (.row 33 kT33)], [.one (.sc (.bool))], feluccaref06_Same k, calls_of (X := feluccaref06_Same_X) (k := k) (c := feluccaref06_Same_c) Tryz.func35 (by kernel_rfl) (by kernel_rfl) (by kernel_rfl) (LoopEqs.all (show LoopEqs feluccaref06_Same_X feluccaref06_Same_c feluccaref06_Same_X.L 0 from ⟨⟨fun _ => rfl, fun k x => feluccaref06_Same_L0_eq k x⟩, trivial⟩)) (fun x => feluccaref06_Same_eq k x), fun _ _ => by kernel_rfl⟩
/-! felucca/feluccaref06.Copy -/
noncomputable def feluccaref06_Copy_c : Code := Tryz.f88.body.getD .skip
def feluccaref06_Copy (k : Nat) : (List T33) → Option (List T33) := fun (l) =>
  bif decide ((0 + List.length l) * 48 ≤ 140737488355328) then
    some (l)
  else
    none
noncomputable def feluccaref06_Copy_X : Cx Tryz.prog [.one (.row 33 kT33)] := ⟨fun k => ⟨[], [], []⟩, Tryz.f88.ntmps, Tryz.f88.results, []⟩
theorem feluccaref06_Copy_eq (k : Nat) (x : List T33) : feluccaref06_Copy k x = runF feluccaref06_Copy_X k feluccaref06_Copy_c [.one (.row 33 kT33)] x := by kernel_rfl
noncomputable def feluccaref06_Copy_e (k : Nat) : Ent Tryz.prog := ⟨88, [.one (.row 33 kT33)], [.one (.row 33 kT33)], feluccaref06_Copy k, calls_of (X := feluccaref06_Copy_X) (k := k) (c := feluccaref06_Copy_c) Tryz.func88 (by kernel_rfl) (by kernel_rfl) (by kernel_rfl) (LoopEqs.all (show LoopEqs feluccaref06_Copy_X feluccaref06_Copy_c feluccaref06_Copy_X.L 0 from trivial)) (fun x => feluccaref06_Copy_eq k x), fun _ _ => by kernel_rfl⟩
/-! felucca/feluccaref06.Find -/
noncomputable def feluccaref06_Find_c : Code := Tryz.f89.body.getD .skip
def feluccaref06_Find_L0 : Nat → ((List T33) × Int × T33 × Int) → Option ((T33) ⊕ (T33 × Bool))
  | 0, _ => none
  | k + 1, (l, id, t4, i) =>
  bif decide (i < Int.ofNat (List.length l)) then
    bif decide (0 ≤ i) then
      bif decide (i < Int.ofNat (List.length l)) then
        bif decide ((List.getD l (Int.toNat i) (0, 0, 0, 0, 0, 0)).1 = id) then
          bif decide (0 ≤ i) then
            bif decide (i < Int.ofNat (List.length l)) then
              some (Sum.inr (List.getD l (Int.toNat i) (0, 0, 0, 0, 0, 0), true))
            else
              none
          else
            none
        else
          feluccaref06_Find_L0 k (l, id, t4, w64 (i + 1))
      else
        none
    else
      none
  else
    some (Sum.inl t4)
def feluccaref06_Find (k : Nat) : ((List T33) × Int) → Option (T33 × Bool) := fun (l, id) =>
  (feluccaref06_Find_L0 k (l, id, (0, 0, 0, 0, 0, 0), 0)).bind fun o_1 =>
    match o_1 with
    | .inl o_2 =>
      some (((0, 0, 0, 0, 0, 0), false))
    | .inr o_2 =>
      some (o_2)
noncomputable def feluccaref06_Find_X : Cx Tryz.prog [.agg lT33, .one (.sc (.bool))] := ⟨fun k => ⟨[], [], []⟩, Tryz.f89.ntmps, Tryz.f89.results, [some ⟨0, [(0, .one (.ro kT33)), (1, .one (.sc (.int .i64))), (4, .box 33 toT33), (6, .one (.sc (.int .i64)))], [(4, .box 33 toT33)], feluccaref06_Find_L0⟩]⟩
theorem feluccaref06_Find_L0_eq (k : Nat) (x : (List T33) × Int × T33 × Int) : feluccaref06_Find_L0 (k + 1) x = roundF feluccaref06_Find_X k ⟨0, [(0, .one (.ro kT33)), (1, .one (.sc (.int .i64))), (4, .box 33 toT33), (6, .one (.sc (.int .i64)))], [(4, .box 33 toT33)], feluccaref06_Find_L0⟩ 0 (lp feluccaref06_Find_c 0) x := by kernel_rfl
theorem feluccaref06_Find_eq (k : Nat) (x : (List T33) × Int) : feluccaref06_Find k x = runF feluccaref06_Find_X k feluccaref06_Find_c [.one (.row 33 kT33), .one (.sc (.int .i64))] x := by kernel_rfl
noncomputable def feluccaref06_Find_e (k : Nat) : Ent Tryz.prog := ⟨89, [.one (.row 33 kT33), .one (.sc (.int .i64))], [.agg lT33, .one (.sc (.bool))], feluccaref06_Find k, calls_of (X := feluccaref06_Find_X) (k := k) (c := feluccaref06_Find_c) Tryz.func89 (by kernel_rfl) (by kernel_rfl) (by kernel_rfl) (LoopEqs.all (show LoopEqs feluccaref06_Find_X feluccaref06_Find_c feluccaref06_Find_X.L 0 from ⟨⟨fun _ => rfl, fun k x => feluccaref06_Find_L0_eq k x⟩, trivial⟩)) (fun x => feluccaref06_Find_eq k x), fun _ _ => by kernel_rfl⟩
/-! felucca/feluccaref06.Add -/
noncomputable def feluccaref06_Add_c : Code := Tryz.f48.body.getD .skip
def feluccaref06_Add_L0 : Nat → ((List T33) × T33 × Int × Int) → Option (((List T33) × T33 × Int) ⊕ ((List T33) × Int))
  | 0, _ => none
  | k + 1, (l, c3, k8, i) =>
  bif decide (i < Int.ofNat (List.length l)) then
    bif decide (0 ≤ i) then
      bif decide (i < Int.ofNat (List.length l)) then
        (feluccaref06_overlap k (List.getD l (Int.toNat i) (0, 0, 0, 0, 0, 0), c3)).bind fun o_4 =>
          bif o_4 then
            (feluccaref06_Copy k l).bind fun o_6 =>
              some (Sum.inr (o_6, 5))
          else
            bif decide (0 ≤ i) then
              bif decide (i < Int.ofNat (List.length l)) then
                (feluccaref06_less k (List.getD l (Int.toNat i) (0, 0, 0, 0, 0, 0), c3)).bind fun o_8 =>
                  bif o_8 then
                    feluccaref06_Add_L0 k (l, c3, w64 (i + 1), w64 (i + 1))
                  else
                    feluccaref06_Add_L0 k (l, c3, k8, w64 (i + 1))
              else
                none
            else
              none
      else
        none
    else
      none
  else
    some (Sum.inl (l, c3, k8))
def feluccaref06_Add (k : Nat) : ((List T33) × T33) → Option ((List T33) × Int) := fun (l, c1) =>
  (feluccaref03_Contact k c1).bind fun o_1 =>
    bif o_1 then
      bif decide (4096 ≤ Int.ofNat (List.length l)) then
        (feluccaref06_Copy k l).bind fun o_4 =>
          some ((o_4, 3))
      else
        (feluccaref06_Find k (l, c1.1)).bind fun o_4 =>
          bif o_4.2 then
            (feluccaref06_Copy k l).bind fun o_6 =>
              some ((o_6, 4))
          else
            (feluccaref06_Add_L0 k (l, c1, 0, 0)).bind fun o_6 =>
              match o_6 with
              | .inl o_7 =>
                bif decide (0 ≤ o_7.2.2) then
                  bif decide (o_7.2.2 ≤ Int.ofNat (List.length o_7.1)) then
                    (feluccaref06_Copy k (List.take (Int.toNat o_7.2.2) o_7.1)).bind fun o_10 =>
                      bif decide ((List.length o_10 + List.length [o_7.2.1]) * 48 ≤ 140737488355328) then
                        bif decide (0 ≤ o_7.2.2) then
                          bif decide (o_7.2.2 ≤ Int.ofNat (List.length o_7.1)) then
                            bif decide ((List.length (o_10 ++ [o_7.2.1]) + List.length (List.drop (Int.toNat o_7.2.2) o_7.1)) * 48 ≤ 140737488355328) then
                              some ((o_10 ++ [o_7.2.1] ++ List.drop (Int.toNat o_7.2.2) o_7.1, 0))
                            else
                              none
                          else
                            none
                        else
                          none
                      else
                        none
                  else
                    none
                else
                  none
              | .inr o_7 =>
                some (o_7)
    else
      (feluccaref06_Copy k l).bind fun o_3 =>
        some ((o_3, 1))
noncomputable def feluccaref06_Add_X : Cx Tryz.prog [.one (.row 33 kT33), .one (.sc (.int .i64))] := ⟨fun k => ⟨[feluccaref03_Contact_e k, feluccaref06_less_e k, feluccaref06_overlap_e k, feluccaref06_Copy_e k, feluccaref06_Find_e k], [], []⟩, Tryz.f48.ntmps, Tryz.f48.results, [some ⟨0, [(0, .one (.ro kT33)), (3, .box 33 trT33), (8, .one (.sc (.int .i64))), (9, .one (.sc (.int .i64)))], [(0, .one (.ro kT33)), (3, .box 33 trT33), (8, .one (.sc (.int .i64)))], feluccaref06_Add_L0⟩]⟩
theorem feluccaref06_Add_L0_eq (k : Nat) (x : (List T33) × T33 × Int × Int) : feluccaref06_Add_L0 (k + 1) x = roundF feluccaref06_Add_X k ⟨0, [(0, .one (.ro kT33)), (3, .box 33 trT33), (8, .one (.sc (.int .i64))), (9, .one (.sc (.int .i64)))], [(0, .one (.ro kT33)), (3, .box 33 trT33), (8, .one (.sc (.int .i64)))], feluccaref06_Add_L0⟩ 0 (lp feluccaref06_Add_c 0) x := by kernel_rfl
theorem feluccaref06_Add_eq (k : Nat) (x : (List T33) × T33) : feluccaref06_Add k x = runF feluccaref06_Add_X k feluccaref06_Add_c [.one (.row 33 kT33), .agg lT33] x := by kernel_rfl
noncomputable def feluccaref06_Add_e (k : Nat) : Ent Tryz.prog := ⟨48, [.one (.row 33 kT33), .agg lT33], [.one (.row 33 kT33), .one (.sc (.int .i64))], feluccaref06_Add k, calls_of (X := feluccaref06_Add_X) (k := k) (c := feluccaref06_Add_c) Tryz.func48 (by kernel_rfl) (by kernel_rfl) (by kernel_rfl) (LoopEqs.all (show LoopEqs feluccaref06_Add_X feluccaref06_Add_c feluccaref06_Add_X.L 0 from ⟨⟨fun _ => rfl, fun k x => feluccaref06_Add_L0_eq k x⟩, trivial⟩)) (fun x => feluccaref06_Add_eq k x), fun _ _ => by kernel_rfl⟩
/-! felucca/feluccaref06.Delete -/
noncomputable def feluccaref06_Delete_c : Code := Tryz.f50.body.getD .skip
def feluccaref06_Delete_L0 : Nat → ((List T33) × Int × (List T33) × Int) → Option (((List T33) × (List T33)) ⊕ ((List T33) × Int))
  | 0, _ => none
  | k + 1, (l, id, out6, i) =>
  bif decide (i < Int.ofNat (List.length l)) then
    bif decide (0 ≤ i) then
      bif decide (i < Int.ofNat (List.length l)) then
        bif !decide ((List.getD l (Int.toNat i) (0, 0, 0, 0, 0, 0)).1 = id) then
          bif decide (0 ≤ i) then
            bif decide (i < Int.ofNat (List.length l)) then
              bif decide ((List.length out6 + List.length [List.getD l (Int.toNat i) (0, 0, 0, 0, 0, 0)]) * 48 ≤ 140737488355328) then
                feluccaref06_Delete_L0 k (l, id, out6 ++ [List.getD l (Int.toNat i) (0, 0, 0, 0, 0, 0)], w64 (i + 1))
              else
                none
            else
              none
          else
            none
        else
          feluccaref06_Delete_L0 k (l, id, out6, w64 (i + 1))
      else
        none
    else
      none
  else
    some (Sum.inl (l, out6))
def feluccaref06_Delete (k : Nat) : ((List T33) × Int) → Option ((List T33) × Int) := fun (l, id) =>
  (feluccaref06_Delete_L0 k (l, id, [], 0)).bind fun o_1 =>
    match o_1 with
    | .inl o_2 =>
      bif decide (Int.ofNat (List.length o_2.2) = Int.ofNat (List.length o_2.1)) then
        some ((o_2.2, 6))
      else
        some ((o_2.2, 0))
    | .inr o_2 =>
      some (o_2)
noncomputable def feluccaref06_Delete_X : Cx Tryz.prog [.one (.row 33 kT33), .one (.sc (.int .i64))] := ⟨fun k => ⟨[], [], []⟩, Tryz.f50.ntmps, Tryz.f50.results, [some ⟨0, [(0, .one (.ro kT33)), (1, .one (.sc (.int .i64))), (6, .one (.own 33 kT33)), (7, .one (.sc (.int .i64)))], [(0, .one (.ro kT33)), (6, .one (.own 33 kT33))], feluccaref06_Delete_L0⟩]⟩
theorem feluccaref06_Delete_L0_eq (k : Nat) (x : (List T33) × Int × (List T33) × Int) : feluccaref06_Delete_L0 (k + 1) x = roundF feluccaref06_Delete_X k ⟨0, [(0, .one (.ro kT33)), (1, .one (.sc (.int .i64))), (6, .one (.own 33 kT33)), (7, .one (.sc (.int .i64)))], [(0, .one (.ro kT33)), (6, .one (.own 33 kT33))], feluccaref06_Delete_L0⟩ 0 (lp feluccaref06_Delete_c 0) x := by kernel_rfl
theorem feluccaref06_Delete_eq (k : Nat) (x : (List T33) × Int) : feluccaref06_Delete k x = runF feluccaref06_Delete_X k feluccaref06_Delete_c [.one (.row 33 kT33), .one (.sc (.int .i64))] x := by kernel_rfl
noncomputable def feluccaref06_Delete_e (k : Nat) : Ent Tryz.prog := ⟨50, [.one (.row 33 kT33), .one (.sc (.int .i64))], [.one (.row 33 kT33), .one (.sc (.int .i64))], feluccaref06_Delete k, calls_of (X := feluccaref06_Delete_X) (k := k) (c := feluccaref06_Delete_c) Tryz.func50 (by kernel_rfl) (by kernel_rfl) (by kernel_rfl) (LoopEqs.all (show LoopEqs feluccaref06_Delete_X feluccaref06_Delete_c feluccaref06_Delete_X.L 0 from ⟨⟨fun _ => rfl, fun k x => feluccaref06_Delete_L0_eq k x⟩, trivial⟩)) (fun x => feluccaref06_Delete_eq k x), fun _ _ => by kernel_rfl⟩
/-! felucca/feluccaref06.Change -/
noncomputable def feluccaref06_Change_c : Code := Tryz.f52.body.getD .skip
def feluccaref06_Change_L0 : Nat → (Int × Int × (List T33) × Int) → Option ((List T33) ⊕ ((List T33) × Int))
  | 0, _ => none
  | k + 1, (id, rate, out8, i) =>
  bif decide (i < Int.ofNat (List.length out8)) then
    bif decide (0 ≤ i) then
      bif decide (i < Int.ofNat (List.length out8)) then
        bif decide ((List.getD out8 (Int.toNat i) (0, 0, 0, 0, 0, 0)).1 = id) then
          bif decide (0 ≤ i) then
            bif decide (i < Int.ofNat (List.length out8)) then
              some (Sum.inr (List.set out8 (Int.toNat i) ((List.getD out8 (Int.toNat i) (0, 0, 0, 0, 0, 0)).1, (List.getD out8 (Int.toNat i) (0, 0, 0, 0, 0, 0)).2.1, (List.getD out8 (Int.toNat i) (0, 0, 0, 0, 0, 0)).2.2.1, (List.getD out8 (Int.toNat i) (0, 0, 0, 0, 0, 0)).2.2.2.1, (List.getD out8 (Int.toNat i) (0, 0, 0, 0, 0, 0)).2.2.2.2.1, rate), 0))
            else
              none
          else
            none
        else
          feluccaref06_Change_L0 k (id, rate, out8, w64 (i + 1))
      else
        none
    else
      none
  else
    some (Sum.inl out8)
def feluccaref06_Change (k : Nat) : ((List T33) × Int × Int) → Option ((List T33) × Int) := fun (l, id, rate) =>
  (feluccaref06_Copy k l).bind fun o_1 =>
    bif decide (rate < 1) then
      some ((o_1, 1))
    else
      bif decide (2147483647 < rate) then
        some ((o_1, 1))
      else
        (feluccaref06_Change_L0 k (id, rate, o_1, 0)).bind fun o_4 =>
          match o_4 with
          | .inl o_5 =>
            some ((o_5, 6))
          | .inr o_5 =>
            some (o_5)
noncomputable def feluccaref06_Change_X : Cx Tryz.prog [.one (.row 33 kT33), .one (.sc (.int .i64))] := ⟨fun k => ⟨[feluccaref06_Copy_e k], [], []⟩, Tryz.f52.ntmps, Tryz.f52.results, [some ⟨0, [(1, .one (.sc (.int .i64))), (2, .one (.sc (.int .i64))), (8, .one (.own 33 kT33)), (9, .one (.sc (.int .i64)))], [(8, .one (.own 33 kT33))], feluccaref06_Change_L0⟩]⟩
theorem feluccaref06_Change_L0_eq (k : Nat) (x : Int × Int × (List T33) × Int) : feluccaref06_Change_L0 (k + 1) x = roundF feluccaref06_Change_X k ⟨0, [(1, .one (.sc (.int .i64))), (2, .one (.sc (.int .i64))), (8, .one (.own 33 kT33)), (9, .one (.sc (.int .i64)))], [(8, .one (.own 33 kT33))], feluccaref06_Change_L0⟩ 0 (lp feluccaref06_Change_c 0) x := by kernel_rfl
theorem feluccaref06_Change_eq (k : Nat) (x : (List T33) × Int × Int) : feluccaref06_Change k x = runF feluccaref06_Change_X k feluccaref06_Change_c [.one (.row 33 kT33), .one (.sc (.int .i64)), .one (.sc (.int .i64))] x := by kernel_rfl
noncomputable def feluccaref06_Change_e (k : Nat) : Ent Tryz.prog := ⟨52, [.one (.row 33 kT33), .one (.sc (.int .i64)), .one (.sc (.int .i64))], [.one (.row 33 kT33), .one (.sc (.int .i64))], feluccaref06_Change k, calls_of (X := feluccaref06_Change_X) (k := k) (c := feluccaref06_Change_c) Tryz.func52 (by kernel_rfl) (by kernel_rfl) (by kernel_rfl) (LoopEqs.all (show LoopEqs feluccaref06_Change_X feluccaref06_Change_c feluccaref06_Change_X.L 0 from ⟨⟨fun _ => rfl, fun k x => feluccaref06_Change_L0_eq k x⟩, trivial⟩)) (fun x => feluccaref06_Change_eq k x), fun _ _ => by kernel_rfl⟩
/-! felucca/feluccaref06.Expire -/
noncomputable def feluccaref06_Expire_c : Code := Tryz.f56.body.getD .skip
def feluccaref06_Expire_L1 : Nat → ((List T33) × Int × (List T33) × (List Int) × Int × Int) → Option (((List T33) × Int × (List T33) × (List Int) × Int) ⊕ ((List T33) × (List Int)))
  | 0, _ => none
  | k + 1, (l, now, out6, gone, i, k9) =>
  bif decide (0 < k9) then
    bif decide (0 ≤ w64 (k9 - 1)) then
      bif decide (w64 (k9 - 1) < Int.ofNat (List.length gone)) then
        bif decide (0 ≤ k9) then
          bif decide (k9 < Int.ofNat (List.length gone)) then
            bif decide (List.getD gone (Int.toNat k9) 0 < List.getD gone (Int.toNat (w64 (k9 - 1))) 0) then
              bif decide (0 ≤ w64 (k9 - 1)) then
                bif decide (w64 (k9 - 1) < Int.ofNat (List.length gone)) then
                  bif decide (0 ≤ k9) then
                    bif decide (k9 < Int.ofNat (List.length gone)) then
                      bif decide (0 ≤ w64 (k9 - 1)) then
                        bif decide (w64 (k9 - 1) < Int.ofNat (List.length gone)) then
                          bif decide (0 ≤ k9) then
                            bif decide (k9 < Int.ofNat (List.length (List.set gone (Int.toNat (w64 (k9 - 1))) (List.getD gone (Int.toNat k9) 0)))) then
                              feluccaref06_Expire_L1 k (l, now, out6, List.set (List.set gone (Int.toNat (w64 (k9 - 1))) (List.getD gone (Int.toNat k9) 0)) (Int.toNat k9) (List.getD gone (Int.toNat (w64 (k9 - 1))) 0), i, w64 (k9 - 1))
                            else
                              none
                          else
                            none
                        else
                          none
                      else
                        none
                    else
                      none
                  else
                    none
                else
                  none
              else
                none
            else
              some (Sum.inl (l, now, out6, gone, i))
          else
            none
        else
          none
      else
        none
    else
      none
  else
    some (Sum.inl (l, now, out6, gone, i))
def feluccaref06_Expire_L0 : Nat → ((List T33) × Int × (List T33) × (List Int) × Int) → Option (((List T33) × (List Int)) ⊕ ((List T33) × (List Int)))
  | 0, _ => none
  | k + 1, (l, now, out6, gone, i) =>
  bif decide (i < Int.ofNat (List.length l)) then
    bif decide (0 ≤ i) then
      bif decide (i < Int.ofNat (List.length l)) then
        bif decide (now < (List.getD l (Int.toNat i) (0, 0, 0, 0, 0, 0)).2.2.2.2.1) then
          bif decide (0 ≤ i) then
            bif decide (i < Int.ofNat (List.length l)) then
              bif decide ((List.length out6 + List.length [List.getD l (Int.toNat i) (0, 0, 0, 0, 0, 0)]) * 48 ≤ 140737488355328) then
                feluccaref06_Expire_L0 k (l, now, out6 ++ [List.getD l (Int.toNat i) (0, 0, 0, 0, 0, 0)], gone, w64 (i + 1))
              else
                none
            else
              none
          else
            none
        else
          bif decide (0 ≤ i) then
            bif decide (i < Int.ofNat (List.length l)) then
              bif decide ((List.length gone + List.length [(List.getD l (Int.toNat i) (0, 0, 0, 0, 0, 0)).1]) * 8 ≤ 140737488355328) then
                (feluccaref06_Expire_L1 k (l, now, out6, gone ++ [(List.getD l (Int.toNat i) (0, 0, 0, 0, 0, 0)).1], i, Int.ofNat (List.length gone))).bind fun o_8 =>
                  match o_8 with
                  | .inl o_9 =>
                    feluccaref06_Expire_L0 k (o_9.1, o_9.2.1, o_9.2.2.1, o_9.2.2.2.1, w64 (o_9.2.2.2.2 + 1))
                  | .inr o_9 =>
                    some (Sum.inr o_9)
              else
                none
            else
              none
          else
            none
      else
        none
    else
      none
  else
    some (Sum.inl (out6, gone))
def feluccaref06_Expire (k : Nat) : ((List T33) × Int) → Option ((List T33) × (List Int)) := fun (l, now) =>
  (feluccaref06_Expire_L0 k (l, now, [], [], 0)).bind fun o_1 =>
    match o_1 with
    | .inl o_2 =>
      some (o_2)
    | .inr o_2 =>
      some (o_2)
noncomputable def feluccaref06_Expire_X : Cx Tryz.prog [.one (.row 33 kT33), .one (.row 3 [.int .i64])] := ⟨fun k => ⟨[], [], []⟩, Tryz.f56.ntmps, Tryz.f56.results, [some ⟨0, [(0, .one (.ro kT33)), (1, .one (.sc (.int .i64))), (6, .one (.own 33 kT33)), (7, .one (.own 3 [.int .i64])), (8, .one (.sc (.int .i64)))], [(6, .one (.own 33 kT33)), (7, .one (.own 3 [.int .i64]))], feluccaref06_Expire_L0⟩, some ⟨2, [(0, .one (.ro kT33)), (1, .one (.sc (.int .i64))), (6, .one (.own 33 kT33)), (7, .one (.own 3 [.int .i64])), (8, .one (.sc (.int .i64))), (9, .one (.sc (.int .i64)))], [(0, .one (.ro kT33)), (1, .one (.sc (.int .i64))), (6, .one (.own 33 kT33)), (7, .one (.own 3 [.int .i64])), (8, .one (.sc (.int .i64)))], feluccaref06_Expire_L1⟩]⟩
theorem feluccaref06_Expire_L1_eq (k : Nat) (x : (List T33) × Int × (List T33) × (List Int) × Int × Int) : feluccaref06_Expire_L1 (k + 1) x = roundF feluccaref06_Expire_X k ⟨2, [(0, .one (.ro kT33)), (1, .one (.sc (.int .i64))), (6, .one (.own 33 kT33)), (7, .one (.own 3 [.int .i64])), (8, .one (.sc (.int .i64))), (9, .one (.sc (.int .i64)))], [(0, .one (.ro kT33)), (1, .one (.sc (.int .i64))), (6, .one (.own 33 kT33)), (7, .one (.own 3 [.int .i64])), (8, .one (.sc (.int .i64)))], feluccaref06_Expire_L1⟩ 1 (lp feluccaref06_Expire_c 1) x := by kernel_rfl
theorem feluccaref06_Expire_L0_eq (k : Nat) (x : (List T33) × Int × (List T33) × (List Int) × Int) : feluccaref06_Expire_L0 (k + 1) x = roundF feluccaref06_Expire_X k ⟨0, [(0, .one (.ro kT33)), (1, .one (.sc (.int .i64))), (6, .one (.own 33 kT33)), (7, .one (.own 3 [.int .i64])), (8, .one (.sc (.int .i64)))], [(6, .one (.own 33 kT33)), (7, .one (.own 3 [.int .i64]))], feluccaref06_Expire_L0⟩ 0 (lp feluccaref06_Expire_c 0) x := by kernel_rfl
theorem feluccaref06_Expire_eq (k : Nat) (x : (List T33) × Int) : feluccaref06_Expire k x = runF feluccaref06_Expire_X k feluccaref06_Expire_c [.one (.row 33 kT33), .one (.sc (.int .i64))] x := by kernel_rfl
noncomputable def feluccaref06_Expire_e (k : Nat) : Ent Tryz.prog := ⟨56, [.one (.row 33 kT33), .one (.sc (.int .i64))], [.one (.row 33 kT33), .one (.row 3 [.int .i64])], feluccaref06_Expire k, calls_of (X := feluccaref06_Expire_X) (k := k) (c := feluccaref06_Expire_c) Tryz.func56 (by kernel_rfl) (by kernel_rfl) (by kernel_rfl) (LoopEqs.all (show LoopEqs feluccaref06_Expire_X feluccaref06_Expire_c feluccaref06_Expire_X.L 0 from ⟨⟨fun _ => rfl, fun k x => feluccaref06_Expire_L0_eq k x⟩, ⟨⟨fun _ => rfl, fun k x => feluccaref06_Expire_L1_eq k x⟩, trivial⟩⟩)) (fun x => feluccaref06_Expire_eq k x), fun _ _ => by kernel_rfl⟩
/-! felucca/feluccaref05.Ints -/
noncomputable def feluccaref05_Ints_c : Code := Tryz.f21.body.getD .skip
def feluccaref05_Ints_L0 : Nat → ((List Int) × (List Int) × Int) → Option ((Unit) ⊕ (Bool))
  | 0, _ => none
  | k + 1, (a, b, i) =>
  bif decide (i < Int.ofNat (List.length a)) then
    bif decide (0 ≤ i) then
      bif decide (i < Int.ofNat (List.length a)) then
        bif decide (0 ≤ i) then
          bif decide (i < Int.ofNat (List.length b)) then
            bif !decide (List.getD a (Int.toNat i) 0 = List.getD b (Int.toNat i) 0) then
              some (Sum.inr false)
            else
              feluccaref05_Ints_L0 k (a, b, w64 (i + 1))
          else
            none
        else
          none
      else
        none
    else
      none
  else
    some (Sum.inl ())
def feluccaref05_Ints (k : Nat) : ((List Int) × (List Int)) → Option (Bool) := fun (a, b) =>
  bif !decide (Int.ofNat (List.length a) = Int.ofNat (List.length b)) then
    some (false)
  else
    (feluccaref05_Ints_L0 k (a, b, 0)).bind fun o_2 =>
      match o_2 with
      | .inl o_3 =>
        some (true)
      | .inr o_3 =>
        some (o_3)
noncomputable def feluccaref05_Ints_X : Cx Tryz.prog [.one (.sc (.bool))] := ⟨fun k => ⟨[], [], []⟩, Tryz.f21.ntmps, Tryz.f21.results, [some ⟨0, [(0, .one (.ro [.int .i64])), (1, .one (.ro [.int .i64])), (5, .one (.sc (.int .i64)))], [], feluccaref05_Ints_L0⟩]⟩
theorem feluccaref05_Ints_L0_eq (k : Nat) (x : (List Int) × (List Int) × Int) : feluccaref05_Ints_L0 (k + 1) x = roundF feluccaref05_Ints_X k ⟨0, [(0, .one (.ro [.int .i64])), (1, .one (.ro [.int .i64])), (5, .one (.sc (.int .i64)))], [], feluccaref05_Ints_L0⟩ 0 (lp feluccaref05_Ints_c 0) x := by kernel_rfl
theorem feluccaref05_Ints_eq (k : Nat) (x : (List Int) × (List Int)) : feluccaref05_Ints k x = runF feluccaref05_Ints_X k feluccaref05_Ints_c [.one (.row 3 [.int .i64]), .one (.row 3 [.int .i64])] x := by kernel_rfl
noncomputable def feluccaref05_Ints_e (k : Nat) : Ent Tryz.prog := ⟨21, [.one (.row 3 [.int .i64]), .one (.row 3 [.int .i64])], [.one (.sc (.bool))], feluccaref05_Ints k, calls_of (X := feluccaref05_Ints_X) (k := k) (c := feluccaref05_Ints_c) Tryz.func21 (by kernel_rfl) (by kernel_rfl) (by kernel_rfl) (LoopEqs.all (show LoopEqs feluccaref05_Ints_X feluccaref05_Ints_c feluccaref05_Ints_X.L 0 from ⟨⟨fun _ => rfl, fun k x => feluccaref05_Ints_L0_eq k x⟩, trivial⟩)) (fun x => feluccaref05_Ints_eq k x), fun _ _ => by kernel_rfl⟩
/-! felucca/contacts.of$1 -/
noncomputable def contacts_of_1_c : Code := Tryz.f107.body.getD .skip
def contacts_of_1 (k : Nat) : (T33 × Int) → Option (Bool) := fun (c0, t1) =>
  bif decide (c0.1 = t1) then
    some (true)
  else
    some (false)
noncomputable def contacts_of_1_X : Cx Tryz.prog [.one (.sc (.bool))] := ⟨fun k => ⟨[], [], []⟩, Tryz.f107.ntmps, Tryz.f107.results, []⟩
theorem contacts_of_1_eq (k : Nat) (x : T33 × Int) : contacts_of_1 k x = runF contacts_of_1_X k contacts_of_1_c [.agg lT33, .one (.ptr [.int .i64])] x := by kernel_rfl
noncomputable def contacts_of_1_e (k : Nat) : Ent Tryz.prog := ⟨107, [.agg lT33, .one (.ptr [.int .i64])], [.one (.sc (.bool))], contacts_of_1 k, calls_of (X := contacts_of_1_X) (k := k) (c := contacts_of_1_c) Tryz.func107 (by kernel_rfl) (by kernel_rfl) (by kernel_rfl) (LoopEqs.all (show LoopEqs contacts_of_1_X contacts_of_1_c contacts_of_1_X.L 0 from trivial)) (fun x => contacts_of_1_eq k x), fun _ _ => by kernel_rfl⟩
/-! felucca/contacts.Add$1 -/
noncomputable def contacts_Add_1_c : Code := Tryz.f77.body.getD .skip
def contacts_Add_1 (k : Nat) : (T33 × T33) → Option (Bool) := fun (x0, t1) =>
  (contacts_overlap k (x0, t1)).bind fun o_1 =>
    bif o_1 then
      some (true)
    else
      some (false)
noncomputable def contacts_Add_1_X : Cx Tryz.prog [.one (.sc (.bool))] := ⟨fun k => ⟨[contacts_overlap_e k], [], []⟩, Tryz.f77.ntmps, Tryz.f77.results, []⟩
theorem contacts_Add_1_eq (k : Nat) (x : T33 × T33) : contacts_Add_1 k x = runF contacts_Add_1_X k contacts_Add_1_c [.agg lT33, .one (.ptr [.int .i64, .int .i64, .int .i64, .int .i64, .int .i64, .int .i64])] x := by kernel_rfl
noncomputable def contacts_Add_1_e (k : Nat) : Ent Tryz.prog := ⟨77, [.agg lT33, .one (.ptr [.int .i64, .int .i64, .int .i64, .int .i64, .int .i64, .int .i64])], [.one (.sc (.bool))], contacts_Add_1 k, calls_of (X := contacts_Add_1_X) (k := k) (c := contacts_Add_1_c) Tryz.func77 (by kernel_rfl) (by kernel_rfl) (by kernel_rfl) (LoopEqs.all (show LoopEqs contacts_Add_1_X contacts_Add_1_c contacts_Add_1_X.L 0 from trivial)) (fun x => contacts_Add_1_eq k x), fun _ _ => by kernel_rfl⟩
/-! felucca/contacts.of -/
noncomputable def contacts_of_c : Code := Tryz.f76.body.getD .skip
def contacts_of (k : Nat) : Int → Option (Int) := fun (id) =>
  some (id)
noncomputable def contacts_of_X : Cx Tryz.prog [.one (.fnc 107 [[.int .i64]])] := ⟨fun k => ⟨[], [], []⟩, Tryz.f76.ntmps, Tryz.f76.results, []⟩
theorem contacts_of_eq (k : Nat) (x : Int) : contacts_of k x = runF contacts_of_X k contacts_of_c [.one (.sc (.int .i64))] x := by kernel_rfl
noncomputable def contacts_of_e (k : Nat) : Ent Tryz.prog := ⟨76, [.one (.sc (.int .i64))], [.one (.fnc 107 [[.int .i64]])], contacts_of k, calls_of (X := contacts_of_X) (k := k) (c := contacts_of_c) Tryz.func76 (by kernel_rfl) (by kernel_rfl) (by kernel_rfl) (LoopEqs.all (show LoopEqs contacts_of_X contacts_of_c contacts_of_X.L 0 from trivial)) (fun x => contacts_of_eq k x), fun _ _ => by kernel_rfl⟩
/-! slices.IndexFunc[[]felucca/api.Contact,felucca/api.Contact] -/
noncomputable def IndexFunc_of_c : Code := Tryz.f58.body.getD .skip
def IndexFunc_of_L0 : Nat → ((List T33) × Int × Int × Int) → Option ((Unit) ⊕ (Int))
  | 0, _ => none
  | k + 1, (s, f, t7, t8) =>
  bif decide (t8 < t7) then
    bif decide (0 ≤ t8) then
      bif decide (t8 < Int.ofNat (List.length s)) then
        (contacts_of_1 k (List.getD s (Int.toNat t8) (0, 0, 0, 0, 0, 0), f)).bind fun o_4 =>
          bif o_4 then
            some (Sum.inr t8)
          else
            IndexFunc_of_L0 k (s, f, t7, w64 (t8 + 1))
      else
        none
    else
      none
  else
    some (Sum.inl ())
def IndexFunc_of (k : Nat) : ((List T33) × Int) → Option (Int) := fun (s, f) =>
  (IndexFunc_of_L0 k (s, f, Int.ofNat (List.length s), 0)).bind fun o_1 =>
    match o_1 with
    | .inl o_2 =>
      some (-1)
    | .inr o_2 =>
      some (o_2)
noncomputable def IndexFunc_of_X : Cx Tryz.prog [.one (.sc (.int .i64))] := ⟨fun k => ⟨[contacts_of_1_e k], [], []⟩, Tryz.f58.ntmps, Tryz.f58.results, [some ⟨0, [(0, .one (.ro kT33)), (1, .fnp 107 [[.int .i64]]), (7, .one (.sc (.int .i64))), (8, .one (.sc (.int .i64)))], [], IndexFunc_of_L0⟩]⟩
theorem IndexFunc_of_L0_eq (k : Nat) (x : (List T33) × Int × Int × Int) : IndexFunc_of_L0 (k + 1) x = roundF IndexFunc_of_X k ⟨0, [(0, .one (.ro kT33)), (1, .fnp 107 [[.int .i64]]), (7, .one (.sc (.int .i64))), (8, .one (.sc (.int .i64)))], [], IndexFunc_of_L0⟩ 0 (lp IndexFunc_of_c 0) x := by kernel_rfl
theorem IndexFunc_of_eq (k : Nat) (x : (List T33) × Int) : IndexFunc_of k x = runF IndexFunc_of_X k IndexFunc_of_c [.one (.row 33 kT33), .one (.fnc 107 [[.int .i64]])] x := by kernel_rfl
noncomputable def IndexFunc_of_e (k : Nat) : Ent Tryz.prog := ⟨58, [.one (.row 33 kT33), .one (.fnc 107 [[.int .i64]])], [.one (.sc (.int .i64))], IndexFunc_of k, calls_of (X := IndexFunc_of_X) (k := k) (c := IndexFunc_of_c) Tryz.func58 (by kernel_rfl) (by kernel_rfl) (by kernel_rfl) (LoopEqs.all (show LoopEqs IndexFunc_of_X IndexFunc_of_c IndexFunc_of_X.L 0 from ⟨⟨fun _ => rfl, fun k x => IndexFunc_of_L0_eq k x⟩, trivial⟩)) (fun x => IndexFunc_of_eq k x), fun _ _ => by kernel_rfl⟩
/-! slices.IndexFunc[[]felucca/api.Contact,felucca/api.Contact] -/
noncomputable def IndexFunc_ov_c : Code := Tryz.f58.body.getD .skip
def IndexFunc_ov_L0 : Nat → ((List T33) × T33 × Int × Int) → Option ((Unit) ⊕ (Int))
  | 0, _ => none
  | k + 1, (s, f, t7, t8) =>
  bif decide (t8 < t7) then
    bif decide (0 ≤ t8) then
      bif decide (t8 < Int.ofNat (List.length s)) then
        (contacts_Add_1 k (List.getD s (Int.toNat t8) (0, 0, 0, 0, 0, 0), f)).bind fun o_4 =>
          bif o_4 then
            some (Sum.inr t8)
          else
            IndexFunc_ov_L0 k (s, f, t7, w64 (t8 + 1))
      else
        none
    else
      none
  else
    some (Sum.inl ())
def IndexFunc_ov (k : Nat) : ((List T33) × T33) → Option (Int) := fun (s, f) =>
  (IndexFunc_ov_L0 k (s, f, Int.ofNat (List.length s), 0)).bind fun o_1 =>
    match o_1 with
    | .inl o_2 =>
      some (-1)
    | .inr o_2 =>
      some (o_2)
noncomputable def IndexFunc_ov_X : Cx Tryz.prog [.one (.sc (.int .i64))] := ⟨fun k => ⟨[contacts_Add_1_e k], [], []⟩, Tryz.f58.ntmps, Tryz.f58.results, [some ⟨0, [(0, .one (.ro kT33)), (1, .fnp 77 [[.int .i64, .int .i64, .int .i64, .int .i64, .int .i64, .int .i64]]), (7, .one (.sc (.int .i64))), (8, .one (.sc (.int .i64)))], [], IndexFunc_ov_L0⟩]⟩
theorem IndexFunc_ov_L0_eq (k : Nat) (x : (List T33) × T33 × Int × Int) : IndexFunc_ov_L0 (k + 1) x = roundF IndexFunc_ov_X k ⟨0, [(0, .one (.ro kT33)), (1, .fnp 77 [[.int .i64, .int .i64, .int .i64, .int .i64, .int .i64, .int .i64]]), (7, .one (.sc (.int .i64))), (8, .one (.sc (.int .i64)))], [], IndexFunc_ov_L0⟩ 0 (lp IndexFunc_ov_c 0) x := by kernel_rfl
theorem IndexFunc_ov_eq (k : Nat) (x : (List T33) × T33) : IndexFunc_ov k x = runF IndexFunc_ov_X k IndexFunc_ov_c [.one (.row 33 kT33), .one (.fnc 77 [[.int .i64, .int .i64, .int .i64, .int .i64, .int .i64, .int .i64]])] x := by kernel_rfl
noncomputable def IndexFunc_ov_e (k : Nat) : Ent Tryz.prog := ⟨58, [.one (.row 33 kT33), .one (.fnc 77 [[.int .i64, .int .i64, .int .i64, .int .i64, .int .i64, .int .i64]])], [.one (.sc (.int .i64))], IndexFunc_ov k, calls_of (X := IndexFunc_ov_X) (k := k) (c := IndexFunc_ov_c) Tryz.func58 (by kernel_rfl) (by kernel_rfl) (by kernel_rfl) (LoopEqs.all (show LoopEqs IndexFunc_ov_X IndexFunc_ov_c IndexFunc_ov_X.L 0 from ⟨⟨fun _ => rfl, fun k x => IndexFunc_ov_L0_eq k x⟩, trivial⟩)) (fun x => IndexFunc_ov_eq k x), fun _ _ => by kernel_rfl⟩
/-! slices.ContainsFunc[[]felucca/api.Contact,felucca/api.Contact] -/
noncomputable def ContainsFunc_of_c : Code := Tryz.f27.body.getD .skip
def ContainsFunc_of (k : Nat) : ((List T33) × Int) → Option (Bool) := fun (s, f) =>
  (IndexFunc_of k (s, f)).bind fun o_1 =>
    bif decide (0 ≤ o_1) then
      some (true)
    else
      some (false)
noncomputable def ContainsFunc_of_X : Cx Tryz.prog [.one (.sc (.bool))] := ⟨fun k => ⟨[IndexFunc_of_e k, IndexFunc_ov_e k, contacts_of_1_e k], [], []⟩, Tryz.f27.ntmps, Tryz.f27.results, []⟩
theorem ContainsFunc_of_eq (k : Nat) (x : (List T33) × Int) : ContainsFunc_of k x = runF ContainsFunc_of_X k ContainsFunc_of_c [.one (.row 33 kT33), .one (.fnc 107 [[.int .i64]])] x := by kernel_rfl
noncomputable def ContainsFunc_of_e (k : Nat) : Ent Tryz.prog := ⟨27, [.one (.row 33 kT33), .one (.fnc 107 [[.int .i64]])], [.one (.sc (.bool))], ContainsFunc_of k, calls_of (X := ContainsFunc_of_X) (k := k) (c := ContainsFunc_of_c) Tryz.func27 (by kernel_rfl) (by kernel_rfl) (by kernel_rfl) (LoopEqs.all (show LoopEqs ContainsFunc_of_X ContainsFunc_of_c ContainsFunc_of_X.L 0 from trivial)) (fun x => ContainsFunc_of_eq k x), fun _ _ => by kernel_rfl⟩
/-! slices.ContainsFunc[[]felucca/api.Contact,felucca/api.Contact] -/
noncomputable def ContainsFunc_ov_c : Code := Tryz.f27.body.getD .skip
def ContainsFunc_ov (k : Nat) : ((List T33) × T33) → Option (Bool) := fun (s, f) =>
  (IndexFunc_ov k (s, f)).bind fun o_1 =>
    bif decide (0 ≤ o_1) then
      some (true)
    else
      some (false)
noncomputable def ContainsFunc_ov_X : Cx Tryz.prog [.one (.sc (.bool))] := ⟨fun k => ⟨[IndexFunc_of_e k, IndexFunc_ov_e k, contacts_Add_1_e k], [], []⟩, Tryz.f27.ntmps, Tryz.f27.results, []⟩
theorem ContainsFunc_ov_eq (k : Nat) (x : (List T33) × T33) : ContainsFunc_ov k x = runF ContainsFunc_ov_X k ContainsFunc_ov_c [.one (.row 33 kT33), .one (.fnc 77 [[.int .i64, .int .i64, .int .i64, .int .i64, .int .i64, .int .i64]])] x := by kernel_rfl
noncomputable def ContainsFunc_ov_e (k : Nat) : Ent Tryz.prog := ⟨27, [.one (.row 33 kT33), .one (.fnc 77 [[.int .i64, .int .i64, .int .i64, .int .i64, .int .i64, .int .i64]])], [.one (.sc (.bool))], ContainsFunc_ov k, calls_of (X := ContainsFunc_ov_X) (k := k) (c := ContainsFunc_ov_c) Tryz.func27 (by kernel_rfl) (by kernel_rfl) (by kernel_rfl) (LoopEqs.all (show LoopEqs ContainsFunc_ov_X ContainsFunc_ov_c ContainsFunc_ov_X.L 0 from trivial)) (fun x => ContainsFunc_ov_eq k x), fun _ _ => by kernel_rfl⟩
/-! slices.BinarySearchFunc[[]felucca/api.Contact,felucca/api.Contact,felucca/api.Contact] -/
noncomputable def BinarySearchFunc_C_c : Code := Tryz.f78.body.getD .skip
def BinarySearchFunc_C_L0 : Nat → ((List T33) × Unit × T33 × Int × Int × Int) → Option (((List T33) × Unit × T33 × Int × Int) ⊕ (Int × Bool))
  | 0, _ => none
  | k + 1, (x0, cmp, target, n, i, j) =>
  bif decide (i < j) then
    bif decide (0 ≤ w64 (Int.fdiv (IntKind.wrap IntKind.u64 (w64 (i + j))) (2 ^ min (Int.toNat 1) 64))) then
      bif decide (w64 (Int.fdiv (IntKind.wrap IntKind.u64 (w64 (i + j))) (2 ^ min (Int.toNat 1) 64)) < Int.ofNat (List.length x0)) then
        (contacts_Compare k (List.getD x0 (Int.toNat (w64 (Int.fdiv (IntKind.wrap IntKind.u64 (w64 (i + j))) (2 ^ min (Int.toNat 1) 64)))) (0, 0, 0, 0, 0, 0), target)).bind fun o_4 =>
          bif decide (o_4 < 0) then
            BinarySearchFunc_C_L0 k (x0, (), target, n, w64 (w64 (Int.fdiv (IntKind.wrap IntKind.u64 (w64 (i + j))) (2 ^ min (Int.toNat 1) 64)) + 1), j)
          else
            BinarySearchFunc_C_L0 k (x0, (), target, n, i, w64 (Int.fdiv (IntKind.wrap IntKind.u64 (w64 (i + j))) (2 ^ min (Int.toNat 1) 64)))
      else
        none
    else
      none
  else
    some (Sum.inl (x0, (), target, n, i))
def BinarySearchFunc_C (k : Nat) : ((List T33) × T33 × Unit) → Option (Int × Bool) := fun (x0, target, cmp) =>
  (BinarySearchFunc_C_L0 k (x0, (), target, Int.ofNat (List.length x0), 0, Int.ofNat (List.length x0))).bind fun o_1 =>
    match o_1 with
    | .inl o_2 =>
      bif decide (o_2.2.2.2.2 < o_2.2.2.2.1) then
        bif decide (0 ≤ o_2.2.2.2.2) then
          bif decide (o_2.2.2.2.2 < Int.ofNat (List.length o_2.1)) then
            (contacts_Compare k (List.getD o_2.1 (Int.toNat o_2.2.2.2.2) (0, 0, 0, 0, 0, 0), o_2.2.2.1)).bind fun o_6 =>
              bif decide (o_6 = 0) then
                some ((o_2.2.2.2.2, true))
              else
                some ((o_2.2.2.2.2, false))
          else
            none
        else
          none
      else
        some ((o_2.2.2.2.2, false))
    | .inr o_2 =>
      some (o_2)
noncomputable def BinarySearchFunc_C_X : Cx Tryz.prog [.one (.sc (.int .i64)), .one (.sc (.bool))] := ⟨fun k => ⟨[contacts_Compare_e k], [], []⟩, Tryz.f78.ntmps, Tryz.f78.results, [some ⟨0, [(0, .one (.ro kT33)), (2, .fnp 61 []), (4, .box 33 trT33), (8, .one (.sc (.int .i64))), (9, .one (.sc (.int .i64))), (10, .one (.sc (.int .i64)))], [(0, .one (.ro kT33)), (2, .fnp 61 []), (4, .box 33 trT33), (8, .one (.sc (.int .i64))), (9, .one (.sc (.int .i64)))], BinarySearchFunc_C_L0⟩]⟩
theorem BinarySearchFunc_C_L0_eq (k : Nat) (x : (List T33) × Unit × T33 × Int × Int × Int) : BinarySearchFunc_C_L0 (k + 1) x = roundF BinarySearchFunc_C_X k ⟨0, [(0, .one (.ro kT33)), (2, .fnp 61 []), (4, .box 33 trT33), (8, .one (.sc (.int .i64))), (9, .one (.sc (.int .i64))), (10, .one (.sc (.int .i64)))], [(0, .one (.ro kT33)), (2, .fnp 61 []), (4, .box 33 trT33), (8, .one (.sc (.int .i64))), (9, .one (.sc (.int .i64)))], BinarySearchFunc_C_L0⟩ 0 (lp BinarySearchFunc_C_c 0) x := by kernel_rfl
theorem BinarySearchFunc_C_eq (k : Nat) (x : (List T33) × T33 × Unit) : BinarySearchFunc_C k x = runF BinarySearchFunc_C_X k BinarySearchFunc_C_c [.one (.row 33 kT33), .agg lT33, .one (.fnc 61 [])] x := by kernel_rfl
noncomputable def BinarySearchFunc_C_e (k : Nat) : Ent Tryz.prog := ⟨78, [.one (.row 33 kT33), .agg lT33, .one (.fnc 61 [])], [.one (.sc (.int .i64)), .one (.sc (.bool))], BinarySearchFunc_C k, calls_of (X := BinarySearchFunc_C_X) (k := k) (c := BinarySearchFunc_C_c) Tryz.func78 (by kernel_rfl) (by kernel_rfl) (by kernel_rfl) (LoopEqs.all (show LoopEqs BinarySearchFunc_C_X BinarySearchFunc_C_c BinarySearchFunc_C_X.L 0 from ⟨⟨fun _ => rfl, fun k x => BinarySearchFunc_C_L0_eq k x⟩, trivial⟩)) (fun x => BinarySearchFunc_C_eq k x), fun _ _ => by kernel_rfl⟩
/-! felucca/contacts.Same -/
noncomputable def contacts_Same_c : Code := Tryz.f33.body.getD .skip
def contacts_Same (k : Nat) : ((List T33) × (List T33)) → Option (Bool) := fun (a, b) =>
  (slices_Equal_api_Contact_api_Contact k (a, b)).bind fun o_1 =>
    bif o_1 then
      some (true)
    else
      some (false)
noncomputable def contacts_Same_X : Cx Tryz.prog [.one (.sc (.bool))] := ⟨fun k => ⟨[slices_Equal_api_Contact_api_Contact_e k], [], []⟩, Tryz.f33.ntmps, Tryz.f33.results, []⟩
theorem contacts_Same_eq (k : Nat) (x : (List T33) × (List T33)) : contacts_Same k x = runF contacts_Same_X k contacts_Same_c [.one (.row 33 kT33), .one (.row 33 kT33)] x := by kernel_rfl
noncomputable def contacts_Same_e (k : Nat) : Ent Tryz.prog := ⟨33, [.one (.row 33 kT33), .one (.row 33 kT33)], [.one (.sc (.bool))], contacts_Same k, calls_of (X := contacts_Same_X) (k := k) (c := contacts_Same_c) Tryz.func33 (by kernel_rfl) (by kernel_rfl) (by kernel_rfl) (LoopEqs.all (show LoopEqs contacts_Same_X contacts_Same_c contacts_Same_X.L 0 from trivial)) (fun x => contacts_Same_eq k x), fun _ _ => by kernel_rfl⟩
/-! slices.Clone[[]felucca/api.Contact,felucca/api.Contact] -/
noncomputable def slices_Clone_api_Contact_api_Contact_c : Code := Tryz.f37.body.getD .skip
def slices_Clone_api_Contact_api_Contact (k : Nat) : (List T33) → Option (List T33) := fun s =>
  bif decide ((0 + List.length s) * 48 ≤ 140737488355328) then
    some (s)
  else
    none
noncomputable def slices_Clone_api_Contact_api_Contact_X : Cx Tryz.prog [.one (.row 33 kT33)] := ⟨fun _ => ⟨[], [], []⟩, Tryz.f37.ntmps, Tryz.f37.results, []⟩
theorem slices_Clone_api_Contact_api_Contact_eq (k : Nat) (x : List T33) : slices_Clone_api_Contact_api_Contact k x = runAt slices_Clone_api_Contact_api_Contact_X k (restC slices_Clone_api_Contact_api_Contact_c) (cloneS kT33 x) := by kernel_rfl
noncomputable def slices_Clone_api_Contact_api_Contact_e (k : Nat) : Ent Tryz.prog := ⟨37, [.one (.row 33 kT33)], [.one (.row 33 kT33)], slices_Clone_api_Contact_api_Contact k, clone_calls (sT := 22) (bT := 4) (e := 33) (rest := restC slices_Clone_api_Contact_api_Contact_c) (X := slices_Clone_api_Contact_api_Contact_X) (k := k) Tryz.func37 (by kernel_rfl) (by kernel_rfl) (by kernel_rfl) (by kernel_rfl) rfl (by kernel_rfl) (by kernel_rfl) (by kernel_rfl) (by kernel_rfl) (by kernel_rfl) (fun l => slices_Clone_api_Contact_api_Contact_eq k l), fun _ _ => by kernel_rfl⟩
/-! felucca/contacts.Right -/
noncomputable def contacts_Right_c : Code := Tryz.f29.body.getD .skip
def contacts_Right_L0 : Nat → ((List T33) × (List Int) × (List T33) × Int × Int) → Option ((List T33) ⊕ (Bool))
  | 0, _ => none
  | k + 1, (l, had, t7, t8, t9) =>
  bif decide (t9 < t8) then
    bif decide (0 ≤ t9) then
      bif decide (t9 < Int.ofNat (List.length t7)) then
        (check_Contact k (List.getD t7 (Int.toNat t9) (0, 0, 0, 0, 0, 0))).bind fun o_4 =>
          bif o_4 then
            bif hasN (List.getD t7 (Int.toNat t9) (0, 0, 0, 0, 0, 0)).1 had then
              some (Sum.inr false)
            else
              bif decide (0 < t9) then
                bif decide (0 ≤ w64 (t9 - 1)) then
                  bif decide (w64 (t9 - 1) < Int.ofNat (List.length l)) then
                    (contacts_Compare k (List.getD l (Int.toNat (w64 (t9 - 1))) (0, 0, 0, 0, 0, 0), List.getD t7 (Int.toNat t9) (0, 0, 0, 0, 0, 0))).bind fun o_10 =>
                      bif decide (0 ≤ o_10) then
                        some (Sum.inr false)
                      else
                        bif decide (0 ≤ w64 (t9 - 1)) then
                          bif decide (w64 (t9 - 1) < Int.ofNat (List.length l)) then
                            (contacts_overlap k (List.getD l (Int.toNat (w64 (t9 - 1))) (0, 0, 0, 0, 0, 0), List.getD t7 (Int.toNat t9) (0, 0, 0, 0, 0, 0))).bind fun o_14 =>
                              bif o_14 then
                                some (Sum.inr false)
                              else
                                contacts_Right_L0 k (l, putN (List.getD t7 (Int.toNat t9) (0, 0, 0, 0, 0, 0)).1 had, t7, t8, w64 (t9 + 1))
                          else
                            none
                        else
                          none
                  else
                    none
                else
                  none
              else
                contacts_Right_L0 k (l, putN (List.getD t7 (Int.toNat t9) (0, 0, 0, 0, 0, 0)).1 had, t7, t8, w64 (t9 + 1))
          else
            some (Sum.inr false)
      else
        none
    else
      none
  else
    some (Sum.inl l)
def contacts_Right (k : Nat) : (List T33) → Option (Bool) := fun (l) =>
  (contacts_Right_L0 k (l, [], l, Int.ofNat (List.length l), 0)).bind fun o_1 =>
    match o_1 with
    | .inl o_2 =>
      bif decide (Int.ofNat (List.length o_2) ≤ 4096) then
        some (true)
      else
        some (false)
    | .inr o_2 =>
      some (o_2)
noncomputable def contacts_Right_X : Cx Tryz.prog [.one (.sc (.bool))] := ⟨fun k => ⟨[check_Contact_e k, contacts_Compare_e k, contacts_overlap_e k], [], []⟩, Tryz.f29.ntmps, Tryz.f29.results, [some ⟨0, [(0, .one (.ro kT33)), (3, .mset), (7, .one (.ro kT33)), (8, .one (.sc (.int .i64))), (9, .one (.sc (.int .i64)))], [(0, .one (.ro kT33))], contacts_Right_L0⟩]⟩
theorem contacts_Right_L0_eq (k : Nat) (x : (List T33) × (List Int) × (List T33) × Int × Int) : contacts_Right_L0 (k + 1) x = roundF contacts_Right_X k ⟨0, [(0, .one (.ro kT33)), (3, .mset), (7, .one (.ro kT33)), (8, .one (.sc (.int .i64))), (9, .one (.sc (.int .i64)))], [(0, .one (.ro kT33))], contacts_Right_L0⟩ 0 (lp contacts_Right_c 0) x := by kernel_rfl
theorem contacts_Right_eq (k : Nat) (x : List T33) : contacts_Right k x = runF contacts_Right_X k contacts_Right_c [.one (.row 33 kT33)] x := by kernel_rfl
noncomputable def contacts_Right_e (k : Nat) : Ent Tryz.prog := ⟨29, [.one (.row 33 kT33)], [.one (.sc (.bool))], contacts_Right k, calls_of (X := contacts_Right_X) (k := k) (c := contacts_Right_c) Tryz.func29 (by kernel_rfl) (by kernel_rfl) (by kernel_rfl) (LoopEqs.all (show LoopEqs contacts_Right_X contacts_Right_c contacts_Right_X.L 0 from ⟨⟨fun _ => rfl, fun k x => contacts_Right_L0_eq k x⟩, trivial⟩)) (fun x => contacts_Right_eq k x), fun _ _ => by kernel_rfl⟩
/-! felucca/contacts.Change -/
noncomputable def contacts_Change_c : Code := Tryz.f43.body.getD .skip
def contacts_Change (k : Nat) : ((List T33) × Int × Int) → Option ((List T33) × Int) := fun (l, id, rate) =>
  (slices_Clone_api_Contact_api_Contact k l).bind fun o_1 =>
    (contacts_of k id).bind fun o_2 =>
      (IndexFunc_of k (o_1, o_2)).bind fun o_3 =>
        bif decide (rate < 1) then
          some ((o_1, 1))
        else
          bif decide (2147483647 < rate) then
            some ((o_1, 1))
          else
            bif decide (o_3 < 0) then
              some ((o_1, 6))
            else
              bif decide (0 ≤ o_3) then
                bif decide (o_3 < Int.ofNat (List.length o_1)) then
                  some ((List.set o_1 (Int.toNat o_3) ((List.getD o_1 (Int.toNat o_3) (0, 0, 0, 0, 0, 0)).1, (List.getD o_1 (Int.toNat o_3) (0, 0, 0, 0, 0, 0)).2.1, (List.getD o_1 (Int.toNat o_3) (0, 0, 0, 0, 0, 0)).2.2.1, (List.getD o_1 (Int.toNat o_3) (0, 0, 0, 0, 0, 0)).2.2.2.1, (List.getD o_1 (Int.toNat o_3) (0, 0, 0, 0, 0, 0)).2.2.2.2.1, rate), 0))
                else
                  none
              else
                none
noncomputable def contacts_Change_X : Cx Tryz.prog [.one (.row 33 kT33), .one (.sc (.int .i64))] := ⟨fun k => ⟨[slices_Clone_api_Contact_api_Contact_e k, IndexFunc_of_e k, IndexFunc_ov_e k, contacts_of_e k], [], []⟩, Tryz.f43.ntmps, Tryz.f43.results, []⟩
theorem contacts_Change_eq (k : Nat) (x : (List T33) × Int × Int) : contacts_Change k x = runF contacts_Change_X k contacts_Change_c [.one (.row 33 kT33), .one (.sc (.int .i64)), .one (.sc (.int .i64))] x := by kernel_rfl
noncomputable def contacts_Change_e (k : Nat) : Ent Tryz.prog := ⟨43, [.one (.row 33 kT33), .one (.sc (.int .i64)), .one (.sc (.int .i64))], [.one (.row 33 kT33), .one (.sc (.int .i64))], contacts_Change k, calls_of (X := contacts_Change_X) (k := k) (c := contacts_Change_c) Tryz.func43 (by kernel_rfl) (by kernel_rfl) (by kernel_rfl) (LoopEqs.all (show LoopEqs contacts_Change_X contacts_Change_c contacts_Change_X.L 0 from trivial)) (fun x => contacts_Change_eq k x), fun _ _ => by kernel_rfl⟩
/-! slices.DeleteFunc[[]felucca/api.Contact,felucca/api.Contact] -/
noncomputable def DeleteFunc_of_c : Code := Tryz.f80.body.getD .skip
def DeleteFunc_of_L0 : Nat → ((List T33) × Int × Int × Int) → Option (((List T33) × Int) ⊕ (List T33))
  | 0, _ => none
  | k + 1, (s, del, i, j) =>
  bif decide (j < Int.ofNat (List.length s)) then
    bif decide (0 ≤ j) then
      bif decide (j < Int.ofNat (List.length s)) then
        (contacts_of_1 k (List.getD s (Int.toNat j) (0, 0, 0, 0, 0, 0), del)).bind fun o_4 =>
          bif o_4 then
            DeleteFunc_of_L0 k (s, del, i, w64 (j + 1))
          else
            bif decide (0 ≤ i) then
              bif decide (i < Int.ofNat (List.length s)) then
                DeleteFunc_of_L0 k (List.set s (Int.toNat i) (List.getD s (Int.toNat j) (0, 0, 0, 0, 0, 0)), del, w64 (i + 1), w64 (j + 1))
              else
                none
            else
              none
      else
        none
    else
      none
  else
    some (Sum.inl (s, i))
def DeleteFunc_of (k : Nat) : List T33 → Int → Option (List T33) := fun s (del) =>
  (IndexFunc_of k (s, del)).bind fun o_1 =>
    bif decide (o_1 = -1) then
      some (s)
    else
      (DeleteFunc_of_L0 k (s, del, o_1, w64 (o_1 + 1))).bind fun o_3 =>
        match o_3 with
        | .inl o_4 =>
          bif decide (0 ≤ o_4.2) then
            bif decide (o_4.2 ≤ Int.ofNat (List.length o_4.1)) then
              bif decide (0 ≤ o_4.2) then
                bif decide (o_4.2 ≤ Int.ofNat (List.length (clearL o_4.1 (Int.toNat o_4.2) (0, 0, 0, 0, 0, 0)))) then
                  some (List.take (Int.toNat o_4.2) (clearL o_4.1 (Int.toNat o_4.2) (0, 0, 0, 0, 0, 0)))
                else
                  none
              else
                none
            else
              none
          else
            none
        | .inr o_4 =>
          some (o_4)
noncomputable def DeleteFunc_of_X : Cx Tryz.prog [.one (.row 33 kT33)] := ⟨fun k => ⟨[IndexFunc_of_e k, IndexFunc_ov_e k, contacts_of_1_e k], [], []⟩, Tryz.f80.ntmps, Tryz.f80.results, [some ⟨0, [(0, .one (.own 33 kT33)), (1, .fnp 107 [[.int .i64]]), (5, .one (.sc (.int .i64))), (6, .one (.sc (.int .i64)))], [(0, .one (.own 33 kT33)), (5, .one (.sc (.int .i64)))], DeleteFunc_of_L0⟩]⟩
theorem DeleteFunc_of_L0_eq (k : Nat) (x : (List T33) × Int × Int × Int) : DeleteFunc_of_L0 (k + 1) x = roundF DeleteFunc_of_X k ⟨0, [(0, .one (.own 33 kT33)), (1, .fnp 107 [[.int .i64]]), (5, .one (.sc (.int .i64))), (6, .one (.sc (.int .i64)))], [(0, .one (.own 33 kT33)), (5, .one (.sc (.int .i64)))], DeleteFunc_of_L0⟩ 0 (lp DeleteFunc_of_c 0) x := by kernel_rfl
theorem DeleteFunc_of_eq (k : Nat) (l : List T33) (x : Int) : DeleteFunc_of k l x = runM (T := 33) (s := kT33) DeleteFunc_of_X k DeleteFunc_of_c [.one (.fnc 107 [[.int .i64]])] l x := by kernel_rfl
noncomputable def DeleteFunc_of_m (k : Nat) : EntM Tryz.prog := ⟨80, 33, kT33, [.one (.fnc 107 [[.int .i64]])], false, DeleteFunc_of k, mut_of (X := DeleteFunc_of_X) (k := k) (c := DeleteFunc_of_c) (by kernel_rfl) Tryz.func80 (by kernel_rfl) (by kernel_rfl) (by kernel_rfl) (LoopEqs.all (show LoopEqs DeleteFunc_of_X DeleteFunc_of_c DeleteFunc_of_X.L 0 from ⟨⟨fun _ => rfl, fun k x => DeleteFunc_of_L0_eq k x⟩, trivial⟩)) (fun l x => DeleteFunc_of_eq k l x), fun _ _ => by kernel_rfl⟩
/-! felucca/contacts.Delete -/
noncomputable def contacts_Delete_c : Code := Tryz.f42.body.getD .skip
def contacts_Delete (k : Nat) : ((List T33) × Int) → Option ((List T33) × Int) := fun (l, id) =>
  (slices_Clone_api_Contact_api_Contact k l).bind fun o_1 =>
    (contacts_of k id).bind fun o_2 =>
      (DeleteFunc_of k o_1 o_2).bind fun o_3 =>
        bif decide (Int.ofNat (List.length o_3) = Int.ofNat (List.length l)) then
          some ((o_3, 6))
        else
          some ((o_3, 0))
noncomputable def contacts_Delete_X : Cx Tryz.prog [.one (.row 33 kT33), .one (.sc (.int .i64))] := ⟨fun k => ⟨[slices_Clone_api_Contact_api_Contact_e k, contacts_of_e k], [DeleteFunc_of_m k], []⟩, Tryz.f42.ntmps, Tryz.f42.results, []⟩
theorem contacts_Delete_eq (k : Nat) (x : (List T33) × Int) : contacts_Delete k x = runF contacts_Delete_X k contacts_Delete_c [.one (.row 33 kT33), .one (.sc (.int .i64))] x := by kernel_rfl
noncomputable def contacts_Delete_e (k : Nat) : Ent Tryz.prog := ⟨42, [.one (.row 33 kT33), .one (.sc (.int .i64))], [.one (.row 33 kT33), .one (.sc (.int .i64))], contacts_Delete k, calls_of (X := contacts_Delete_X) (k := k) (c := contacts_Delete_c) Tryz.func42 (by kernel_rfl) (by kernel_rfl) (by kernel_rfl) (LoopEqs.all (show LoopEqs contacts_Delete_X contacts_Delete_c contacts_Delete_X.L 0 from trivial)) (fun x => contacts_Delete_eq k x), fun _ _ => by kernel_rfl⟩
/-! slices.Sort[[]int,int] (by hand) -/
def slices_Sort (_k : Nat) : List Int → Unit → Option (List Int) := sortF
noncomputable def slices_Sort_m (k : Nat) : EntM Tryz.prog := ⟨92, 3, [.int .i64], [], true, slices_Sort k, sort_mut Tryz.slices_Sort_int Tryz.slices_Sort_int_none, fun _ _ => by kernel_rfl⟩
/-! felucca/contacts.Expire -/
noncomputable def contacts_Expire_c : Code := Tryz.f54.body.getD .skip
def contacts_Expire_L0 : Nat → (Int × (List T33) × (List Int) × (List T33) × Int × Int) → Option (((List T33) × (List Int)) ⊕ ((List T33) × (List Int)))
  | 0, _ => none
  | k + 1, (now, left, gone, t8, t9, t10) =>
  bif decide (t10 < t9) then
    bif decide (0 ≤ t10) then
      bif decide (t10 < Int.ofNat (List.length t8)) then
        bif decide (now < (List.getD t8 (Int.toNat t10) (0, 0, 0, 0, 0, 0)).2.2.2.2.1) then
          bif decide ((List.length left + List.length [List.getD t8 (Int.toNat t10) (0, 0, 0, 0, 0, 0)]) * 48 ≤ 140737488355328) then
            contacts_Expire_L0 k (now, left ++ [List.getD t8 (Int.toNat t10) (0, 0, 0, 0, 0, 0)], gone, t8, t9, w64 (t10 + 1))
          else
            none
        else
          bif decide ((List.length gone + List.length [(List.getD t8 (Int.toNat t10) (0, 0, 0, 0, 0, 0)).1]) * 8 ≤ 140737488355328) then
            contacts_Expire_L0 k (now, left, gone ++ [(List.getD t8 (Int.toNat t10) (0, 0, 0, 0, 0, 0)).1], t8, t9, w64 (t10 + 1))
          else
            none
      else
        none
    else
      none
  else
    some (Sum.inl (left, gone))
def contacts_Expire (k : Nat) : ((List T33) × Int) → Option ((List T33) × (List Int)) := fun (l, now) =>
  (contacts_Expire_L0 k (now, [], [], l, Int.ofNat (List.length l), 0)).bind fun o_1 =>
    match o_1 with
    | .inl o_2 =>
      (slices_Sort k o_2.2 ()).bind fun o_3 =>
        some ((o_2.1, o_3))
    | .inr o_2 =>
      some (o_2)
noncomputable def contacts_Expire_X : Cx Tryz.prog [.one (.row 33 kT33), .one (.row 3 [.int .i64])] := ⟨fun k => ⟨[], [slices_Sort_m k], []⟩, Tryz.f54.ntmps, Tryz.f54.results, [some ⟨0, [(1, .one (.sc (.int .i64))), (4, .one (.own 33 kT33)), (5, .one (.own 3 [.int .i64])), (8, .one (.ro kT33)), (9, .one (.sc (.int .i64))), (10, .one (.sc (.int .i64)))], [(4, .one (.own 33 kT33)), (5, .one (.own 3 [.int .i64]))], contacts_Expire_L0⟩]⟩
theorem contacts_Expire_L0_eq (k : Nat) (x : Int × (List T33) × (List Int) × (List T33) × Int × Int) : contacts_Expire_L0 (k + 1) x = roundF contacts_Expire_X k ⟨0, [(1, .one (.sc (.int .i64))), (4, .one (.own 33 kT33)), (5, .one (.own 3 [.int .i64])), (8, .one (.ro kT33)), (9, .one (.sc (.int .i64))), (10, .one (.sc (.int .i64)))], [(4, .one (.own 33 kT33)), (5, .one (.own 3 [.int .i64]))], contacts_Expire_L0⟩ 0 (lp contacts_Expire_c 0) x := by kernel_rfl
theorem contacts_Expire_eq (k : Nat) (x : (List T33) × Int) : contacts_Expire k x = runF contacts_Expire_X k contacts_Expire_c [.one (.row 33 kT33), .one (.sc (.int .i64))] x := by kernel_rfl
noncomputable def contacts_Expire_e (k : Nat) : Ent Tryz.prog := ⟨54, [.one (.row 33 kT33), .one (.sc (.int .i64))], [.one (.row 33 kT33), .one (.row 3 [.int .i64])], contacts_Expire k, calls_of (X := contacts_Expire_X) (k := k) (c := contacts_Expire_c) Tryz.func54 (by kernel_rfl) (by kernel_rfl) (by kernel_rfl) (LoopEqs.all (show LoopEqs contacts_Expire_X contacts_Expire_c contacts_Expire_X.L 0 from ⟨⟨fun _ => rfl, fun k x => contacts_Expire_L0_eq k x⟩, trivial⟩)) (fun x => contacts_Expire_eq k x), fun _ _ => by kernel_rfl⟩
end Go.Proofs.YtggikacbelogcaaGreat.Ex
