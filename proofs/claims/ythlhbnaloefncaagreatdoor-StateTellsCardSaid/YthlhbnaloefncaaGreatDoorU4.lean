/- Part 4 of what the statements' rows lean on: the executor, the functions' trees, and what they come to in plain words. -/
import Derived.Test.YthlhbnaloefncaaGreatDoorU3
import Derived.Test.YthlhbnaloefncaaGreatDoorProg
namespace Go.Proofs.YthlhbnaloefncaaGreatDoor
set_option linter.unusedVariables false
set_option linter.unusedSimpArgs false
namespace Ex
open Go
set_option maxHeartbeats 0
abbrev GContact := Int × Int × Int × Int × Int × Int
abbrev lGContact : List LK := [.sc (.int .i64), .sc (.int .i64), .sc (.int .i64), .sc (.int .i64), .sc (.int .i64), .sc (.int .i64)]
abbrev toGContact : List TL := [.sc (.int .i64), .sc (.int .i64), .sc (.int .i64), .sc (.int .i64), .sc (.int .i64), .sc (.int .i64)]
abbrev trGContact : List TL := [.sc (.int .i64), .sc (.int .i64), .sc (.int .i64), .sc (.int .i64), .sc (.int .i64), .sc (.int .i64)]
abbrev kGContact : List SK := [.int .i64, .int .i64, .int .i64, .int .i64, .int .i64, .int .i64]
abbrev GRange := Int × Int × Int × Int × Int
abbrev lGRange : List LK := [.sc (.int .i64), .sc (.int .i64), .sc (.int .i64), .sc (.int .i64), .sc (.int .i64)]
abbrev trGRange : List TL := [.sc (.int .i64), .sc (.int .i64), .sc (.int .i64), .sc (.int .i64), .sc (.int .i64)]
abbrev kGRange : List SK := [.int .i64, .int .i64, .int .i64, .int .i64, .int .i64]
abbrev GPlan := (List GContact) × (List GRange) × Int × Int
abbrev lGPlan : List LK := [.row 34 kGContact, .row 36 kGRange, .sc (.int .i64), .sc (.int .i64)]
abbrev trGPlan : List TL := [.ro kGContact, .ro kGRange, .sc (.int .i64), .sc (.int .i64)]
abbrev GDirective := Int × Int × Int × Int × Int × Int × Int × Int × Int × Int × Int × Int × Int
abbrev lGDirective : List LK := [.sc (.int .i64), .sc (.int .i64), .sc (.int .i64), .sc (.int .i64), .sc (.int .i64), .sc (.int .i64), .sc (.int .i64), .sc (.int .i64), .sc (.int .i64), .sc (.int .i64), .sc (.int .i64), .sc (.int .i64), .sc (.int .i64)]
abbrev toGDirective : List TL := [.sc (.int .i64), .sc (.int .i64), .sc (.int .i64), .sc (.int .i64), .sc (.int .i64), .sc (.int .i64), .sc (.int .i64), .sc (.int .i64), .sc (.int .i64), .sc (.int .i64), .sc (.int .i64), .sc (.int .i64), .sc (.int .i64)]
abbrev kGDirective : List SK := [.int .i64, .int .i64, .int .i64, .int .i64, .int .i64, .int .i64, .int .i64, .int .i64, .int .i64, .int .i64, .int .i64, .int .i64, .int .i64]
def num_In (k : Nat) : (Int × Int × Int) → Option (Bool) := fun (n, low, high) =>
  bif decide (low ≤ n) then
  bif decide (n ≤ high) then
   some (true)
  else
   some (false)
 else
  some (false)
noncomputable def num_In_e := entOf (P := Tryz.prog) (A := [.one (.sc (.int .i64)), .one (.sc (.int .i64)), .one (.sc (.int .i64))]) (R := [.one (.sc (.bool))]) Tryz.f125 num_In (fun k => ⟨[], [], [hkStr Tryz.prog]⟩) [] Tryz.func125 (by kernel_rfl) (by kernel_rfl) trivial (fun k x => by kernel_rfl) fun _ _ => by kernel_rfl
def check_Node (k : Nat) : Int → Option (Bool) := fun (n) =>
  (num_In k (n, 1, 255)).bind fun o_1 =>
  bif o_1 then
   some (true)
  else
   some (false)
noncomputable def check_Node_e := entOf (P := Tryz.prog) (A := [.one (.sc (.int .i64))]) (R := [.one (.sc (.bool))]) Tryz.f180 check_Node (fun k => ⟨[num_In_e k], [], [hkStr Tryz.prog]⟩) [] Tryz.func180 (by kernel_rfl) (by kernel_rfl) trivial (fun k x => by kernel_rfl) fun _ _ => by kernel_rfl
def check_way (k : Nat) : (Int × Int) → Option (Bool) := fun (from0, to1) =>
  (check_Node k from0).bind fun o_1 =>
  bif o_1 then
   (check_Node k to1).bind fun o_3 =>
    bif o_3 then
     bif !decide (from0 = to1) then
      some (true)
     else
      some (false)
    else
     some (false)
  else
   some (false)
noncomputable def check_way_e := entOf (P := Tryz.prog) (A := [.one (.sc (.int .i64)), .one (.sc (.int .i64))]) (R := [.one (.sc (.bool))]) Tryz.f123 check_way (fun k => ⟨[check_Node_e k], [], [hkStr Tryz.prog]⟩) [] Tryz.func123 (by kernel_rfl) (by kernel_rfl) trivial (fun k x => by kernel_rfl) fun _ _ => by kernel_rfl
def check_span (k : Nat) : (Int × Int) → Option (Bool) := fun (start, end1) =>
  (num_In k (start, 0, w64 (end1 - 1))).bind fun o_1 =>
  bif o_1 then
   (num_In k (end1, 1, 2147483647)).bind fun o_3 =>
    bif o_3 then
     some (true)
    else
     some (false)
  else
   some (false)
noncomputable def check_span_e := entOf (P := Tryz.prog) (A := [.one (.sc (.int .i64)), .one (.sc (.int .i64))]) (R := [.one (.sc (.bool))]) Tryz.f124 check_span (fun k => ⟨[num_In_e k], [], [hkStr Tryz.prog]⟩) [] Tryz.func124 (by kernel_rfl) (by kernel_rfl) trivial (fun k x => by kernel_rfl) fun _ _ => by kernel_rfl
def check_Contact (k : Nat) : GContact → Option (Bool) := fun (c0) =>
  (check_way k (c0.2.1, c0.2.2.1)).bind fun o_1 =>
  bif o_1 then
   (check_span k (c0.2.2.2.1, c0.2.2.2.2.1)).bind fun o_3 =>
    bif o_3 then
     (num_In k (c0.1, 1, 1048576)).bind fun o_5 =>
      bif o_5 then
       (num_In k (c0.2.2.2.2.2, 1, 2147483647)).bind fun o_7 =>
        bif o_7 then
         some (true)
        else
         some (false)
      else
       some (false)
    else
     some (false)
  else
   some (false)
noncomputable def check_Contact_e := entOf (P := Tryz.prog) (A := [.agg lGContact]) (R := [.one (.sc (.bool))]) Tryz.f70 check_Contact (fun k => ⟨[check_way_e k, check_span_e k, num_In_e k], [], [hkStr Tryz.prog]⟩) [] Tryz.func70 (by kernel_rfl) (by kernel_rfl) trivial (fun k x => by kernel_rfl) fun _ _ => by kernel_rfl
def contacts_overlap (k : Nat) : (GContact × GContact) → Option (Bool) := fun (a, b) =>
  bif decide (a.2.1 = b.2.1) then
  bif decide (a.2.2.1 = b.2.2.1) then
   bif decide (mx a.2.2.2.1 b.2.2.2.1 < mn a.2.2.2.2.1 b.2.2.2.2.1) then
    some (true)
   else
    some (false)
  else
   some (false)
 else
  some (false)
noncomputable def contacts_overlap_e := entOf (P := Tryz.prog) (A := [.agg lGContact, .agg lGContact]) (R := [.one (.sc (.bool))]) Tryz.f130 contacts_overlap (fun k => ⟨[], [], [hkStr Tryz.prog]⟩) [] Tryz.func130 (by kernel_rfl) (by kernel_rfl) trivial (fun k x => by kernel_rfl) fun _ _ => by kernel_rfl
def cmp_isNaN_int (k : Nat) : Int → Option (Bool) := fun (x0) =>
  bif !decide (x0 = x0) then
  some (true)
 else
  some (false)
noncomputable def cmp_isNaN_int_e := entOf (P := Tryz.prog) (A := [.one (.sc (.int .i64))]) (R := [.one (.sc (.bool))]) Tryz.f179 cmp_isNaN_int (fun k => ⟨[], [], [hkStr Tryz.prog]⟩) [] Tryz.func179 (by kernel_rfl) (by kernel_rfl) trivial (fun k x => by kernel_rfl) fun _ _ => by kernel_rfl
def cmp_Compare_int (k : Nat) : (Int × Int) → Option (Int) := fun (x0, y1) =>
  (cmp_isNaN_int k x0).bind fun o_1 =>
  bif o_1 then
   (cmp_isNaN_int k y1).bind fun o_3 =>
    bif o_3 then
     some (0)
    else
     some (-1)
  else
   (cmp_isNaN_int k y1).bind fun o_3 =>
    bif o_3 then
     some (1)
    else
     bif decide (x0 < y1) then
      some (-1)
     else
      bif decide (y1 < x0) then
       some (1)
      else
       some (0)
noncomputable def cmp_Compare_int_e := entOf (P := Tryz.prog) (A := [.one (.sc (.int .i64)), .one (.sc (.int .i64))]) (R := [.one (.sc (.int .i64))]) Tryz.f122 cmp_Compare_int (fun k => ⟨[cmp_isNaN_int_e k], [], [hkStr Tryz.prog]⟩) [] Tryz.func122 (by kernel_rfl) (by kernel_rfl) trivial (fun k x => by kernel_rfl) fun _ _ => by kernel_rfl
def cmp_Or_int_L0 : Nat → (Int × (List Int) × Int × Int) → Option ((Int) ⊕ (Int))
  | 0, _ => none
  | k + 1, (zero, t6, t7, t8) =>
  bif decide (t8 < t7) then
  bif decide (0 ≤ t8) then
   bif decide (t8 < Int.ofNat (List.length t6)) then
    bif !decide (List.getD t6 (Int.toNat t8) 0 = zero) then
     some (Sum.inr (List.getD t6 (Int.toNat t8) 0))
    else
     cmp_Or_int_L0 k (zero, t6, t7, w64 (t8 + 1))
   else
    none
  else
   none
 else
  some (Sum.inl zero)
def cmp_Or_int (k : Nat) : (List Int) → Option (Int) := fun (vals) =>
  (cmp_Or_int_L0 k (0, vals, Int.ofNat (List.length vals), 0)).bind fun o_1 =>
  match o_1 with
  | .inl o_2 =>
   some (o_2)
  | .inr o_2 =>
   some (o_2)
noncomputable def cmp_Or_int_e := entOf (P := Tryz.prog) (A := [.one (.row 3 [.int .i64])]) (R := [.one (.sc (.int .i64))]) Tryz.f184 cmp_Or_int (fun k => ⟨[], [], [hkStr Tryz.prog]⟩) [some ⟨0, [(3, .one (.sc (.int .i64))), (6, .one (.ro [.int .i64])), (7, .one (.sc (.int .i64))), (8, .one (.sc (.int .i64)))], [(3, .one (.sc (.int .i64)))], cmp_Or_int_L0⟩] Tryz.func184 (by kernel_rfl) (by kernel_rfl) ⟨⟨fun _ => rfl, fun k x => by kernel_rfl⟩, trivial⟩ (fun k x => by kernel_rfl) fun _ _ => by kernel_rfl
def contacts_Compare (k : Nat) : (GContact × GContact) → Option (Int) := fun (a, b) =>
  (cmp_Compare_int k (a.2.1, b.2.1)).bind fun o_1 =>
  (cmp_Compare_int k (a.2.2.1, b.2.2.1)).bind fun o_2 =>
   (cmp_Compare_int k (a.2.2.2.1, b.2.2.2.1)).bind fun o_3 =>
    (cmp_Compare_int k (a.1, b.1)).bind fun o_4 =>
     (cmp_Or_int k [o_1, o_2, o_3, o_4]).bind fun o_5 =>
      some (o_5)
noncomputable def contacts_Compare_e := entOf (P := Tryz.prog) (A := [.agg lGContact, .agg lGContact]) (R := [.one (.sc (.int .i64))]) Tryz.f129 contacts_Compare (fun k => ⟨[cmp_Compare_int_e k, cmp_Or_int_e k], [], [hkStr Tryz.prog]⟩) [] Tryz.func129 (by kernel_rfl) (by kernel_rfl) trivial (fun k x => by kernel_rfl) fun _ _ => by kernel_rfl
def slices_Equal_api_Contact_api_Contact_L0 : Nat → ((List GContact) × (List GContact) × Int × Int) → Option ((Unit) ⊕ (Bool))
  | 0, _ => none
  | k + 1, (s1, s2, t12, t13) =>
  bif decide (t13 < t12) then
  bif decide (0 ≤ t13) then
   bif decide (t13 < Int.ofNat (List.length s1)) then
    bif decide (0 ≤ t13) then
     bif decide (t13 < Int.ofNat (List.length s2)) then
      bif !((List.getD s1 (Int.toNat t13) (0, 0, 0, 0, 0, 0)).1 == (List.getD s2 (Int.toNat t13) (0, 0, 0, 0, 0, 0)).1 && ((List.getD s1 (Int.toNat t13) (0, 0, 0, 0, 0, 0)).2.1 == (List.getD s2 (Int.toNat t13) (0, 0, 0, 0, 0, 0)).2.1 && ((List.getD s1 (Int.toNat t13) (0, 0, 0, 0, 0, 0)).2.2.1 == (List.getD s2 (Int.toNat t13) (0, 0, 0, 0, 0, 0)).2.2.1 && ((List.getD s1 (Int.toNat t13) (0, 0, 0, 0, 0, 0)).2.2.2.1 == (List.getD s2 (Int.toNat t13) (0, 0, 0, 0, 0, 0)).2.2.2.1 && ((List.getD s1 (Int.toNat t13) (0, 0, 0, 0, 0, 0)).2.2.2.2.1 == (List.getD s2 (Int.toNat t13) (0, 0, 0, 0, 0, 0)).2.2.2.2.1 && (List.getD s1 (Int.toNat t13) (0, 0, 0, 0, 0, 0)).2.2.2.2.2 == (List.getD s2 (Int.toNat t13) (0, 0, 0, 0, 0, 0)).2.2.2.2.2))))) then
       some (Sum.inr false)
      else
       slices_Equal_api_Contact_api_Contact_L0 k (s1, s2, t12, w64 (t13 + 1))
     else
      none
    else
     none
   else
    none
  else
   none
 else
  some (Sum.inl ())
def slices_Equal_api_Contact_api_Contact (k : Nat) : ((List GContact) × (List GContact)) → Option (Bool) := fun (s1, s2) =>
  bif !decide (Int.ofNat (List.length s1) = Int.ofNat (List.length s2)) then
  some (false)
 else
  (slices_Equal_api_Contact_api_Contact_L0 k (s1, s2, Int.ofNat (List.length s1), 0)).bind fun o_2 =>
   match o_2 with
   | .inl o_3 =>
    some (true)
   | .inr o_3 =>
    some (o_3)
noncomputable def slices_Equal_api_Contact_api_Contact_e := entOf (P := Tryz.prog) (A := [.one (.row 34 kGContact), .one (.row 34 kGContact)]) (R := [.one (.sc (.bool))]) Tryz.f72 slices_Equal_api_Contact_api_Contact (fun k => ⟨[], [], [hkStr Tryz.prog]⟩) [some ⟨0, [(0, .one (.ro kGContact)), (1, .one (.ro kGContact)), (12, .one (.sc (.int .i64))), (13, .one (.sc (.int .i64)))], [], slices_Equal_api_Contact_api_Contact_L0⟩] Tryz.func72 (by kernel_rfl) (by kernel_rfl) ⟨⟨fun _ => rfl, fun k x => by kernel_rfl⟩, trivial⟩ (fun k x => by kernel_rfl) fun _ _ => by kernel_rfl
def rf03_Node (k : Nat) : Int → Option (Bool) := fun (n) =>
  bif decide (1 ≤ n) then
  bif decide (n ≤ 255) then
   some (true)
  else
   some (false)
 else
  some (false)
noncomputable def rf03_Node_e := entOf (P := Tryz.prog) (A := [.one (.sc (.int .i64))]) (R := [.one (.sc (.bool))]) Tryz.f208 rf03_Node (fun k => ⟨[], [], [hkStr Tryz.prog]⟩) [] Tryz.func208 (by kernel_rfl) (by kernel_rfl) trivial (fun k x => by kernel_rfl) fun _ _ => by kernel_rfl
def rf03_pair (k : Nat) : (Int × Int × Int × Int) → Option (Bool) := fun (from0, to1, start, end3) =>
  (rf03_Node k from0).bind fun o_1 =>
  bif o_1 then
   (rf03_Node k to1).bind fun o_3 =>
    bif o_3 then
     bif !decide (from0 = to1) then
      bif decide (0 ≤ start) then
       bif decide (start < end3) then
        bif decide (end3 ≤ 2147483647) then
         some (true)
        else
         some (false)
       else
        some (false)
      else
       some (false)
     else
      some (false)
    else
     some (false)
  else
   (rf03_Node k to1).bind fun o_3 =>
    bif o_3 then
     some (false)
    else
     some (false)
noncomputable def rf03_pair_e := entOf (P := Tryz.prog) (A := [.one (.sc (.int .i64)), .one (.sc (.int .i64)), .one (.sc (.int .i64)), .one (.sc (.int .i64))]) (R := [.one (.sc (.bool))]) Tryz.f185 rf03_pair (fun k => ⟨[rf03_Node_e k], [], [hkStr Tryz.prog]⟩) [] Tryz.func185 (by kernel_rfl) (by kernel_rfl) trivial (fun k x => by kernel_rfl) fun _ _ => by kernel_rfl
def rf03_Contact (k : Nat) : GContact → Option (Bool) := fun (c0) =>
  (rf03_pair k (c0.2.1, c0.2.2.1, c0.2.2.2.1, c0.2.2.2.2.1)).bind fun o_1 =>
  bif o_1 then
   bif decide (1 ≤ c0.1) then
    bif decide (c0.1 ≤ 1048576) then
     bif decide (1 ≤ c0.2.2.2.2.2) then
      bif decide (c0.2.2.2.2.2 ≤ 2147483647) then
       some (true)
      else
       some (false)
     else
      some (false)
    else
     some (false)
   else
    some (false)
  else
   some (false)
noncomputable def rf03_Contact_e := entOf (P := Tryz.prog) (A := [.agg lGContact]) (R := [.one (.sc (.bool))]) Tryz.f134 rf03_Contact (fun k => ⟨[rf03_pair_e k], [], [hkStr Tryz.prog]⟩) [] Tryz.func134 (by kernel_rfl) (by kernel_rfl) trivial (fun k x => by kernel_rfl) fun _ _ => by kernel_rfl
def rf06_less (k : Nat) : (GContact × GContact) → Option (Bool) := fun (a, b) =>
  bif !decide (a.2.1 = b.2.1) then
  bif decide (a.2.1 < b.2.1) then
   some (true)
  else
   some (false)
 else
  bif !decide (a.2.2.1 = b.2.2.1) then
   bif decide (a.2.2.1 < b.2.2.1) then
    some (true)
   else
    some (false)
  else
   bif !decide (a.2.2.2.1 = b.2.2.2.1) then
    bif decide (a.2.2.2.1 < b.2.2.2.1) then
     some (true)
    else
     some (false)
   else
    bif decide (a.1 < b.1) then
     some (true)
    else
     some (false)
noncomputable def rf06_less_e := entOf (P := Tryz.prog) (A := [.agg lGContact, .agg lGContact]) (R := [.one (.sc (.bool))]) Tryz.f135 rf06_less (fun k => ⟨[], [], [hkStr Tryz.prog]⟩) [] Tryz.func135 (by kernel_rfl) (by kernel_rfl) trivial (fun k x => by kernel_rfl) fun _ _ => by kernel_rfl
def rf06_overlap (k : Nat) : (GContact × GContact) → Option (Bool) := fun (a, b) =>
  bif decide (a.2.1 = b.2.1) then
  bif decide (a.2.2.1 = b.2.2.1) then
   bif decide (a.2.2.2.1 < b.2.2.2.2.1) then
    bif decide (b.2.2.2.1 < a.2.2.2.2.1) then
     some (true)
    else
     some (false)
   else
    some (false)
  else
   some (false)
 else
  some (false)
noncomputable def rf06_overlap_e := entOf (P := Tryz.prog) (A := [.agg lGContact, .agg lGContact]) (R := [.one (.sc (.bool))]) Tryz.f136 rf06_overlap (fun k => ⟨[], [], [hkStr Tryz.prog]⟩) [] Tryz.func136 (by kernel_rfl) (by kernel_rfl) trivial (fun k x => by kernel_rfl) fun _ _ => by kernel_rfl
def rf06_Right_L1 : Nat → ((List GContact) × Int × Int) → Option (((List GContact) × Int) ⊕ (Bool))
  | 0, _ => none
  | k + 1, (l, i, k5) =>
  bif decide (k5 < i) then
  bif decide (0 ≤ k5) then
   bif decide (k5 < Int.ofNat (List.length l)) then
    bif decide (0 ≤ i) then
     bif decide (i < Int.ofNat (List.length l)) then
      bif decide ((List.getD l (Int.toNat k5) (0, 0, 0, 0, 0, 0)).1 = (List.getD l (Int.toNat i) (0, 0, 0, 0, 0, 0)).1) then
       some (Sum.inr false)
      else
       bif decide (0 ≤ k5) then
        bif decide (k5 < Int.ofNat (List.length l)) then
         bif decide (0 ≤ i) then
          bif decide (i < Int.ofNat (List.length l)) then
           (rf06_overlap k (List.getD l (Int.toNat k5) (0, 0, 0, 0, 0, 0), List.getD l (Int.toNat i) (0, 0, 0, 0, 0, 0))).bind fun o_11 =>
            bif o_11 then
             some (Sum.inr false)
            else
             rf06_Right_L1 k (l, i, w64 (k5 + 1))
          else
           none
         else
          none
        else
         none
       else
        none
     else
      none
    else
     none
   else
    none
  else
   none
 else
  some (Sum.inl (l, i))
def rf06_Right_L0 : Nat → ((List GContact) × Int) → Option ((List GContact) ⊕ (Bool))
  | 0, _ => none
  | k + 1, (l, i) =>
  bif decide (i < Int.ofNat (List.length l)) then
  bif decide (0 ≤ i) then
   bif decide (i < Int.ofNat (List.length l)) then
    (rf03_Contact k (List.getD l (Int.toNat i) (0, 0, 0, 0, 0, 0))).bind fun o_4 =>
     bif o_4 then
      bif decide (0 < i) then
       bif decide (0 ≤ w64 (i - 1)) then
        bif decide (w64 (i - 1) < Int.ofNat (List.length l)) then
         bif decide (0 ≤ i) then
          bif decide (i < Int.ofNat (List.length l)) then
           (rf06_less k (List.getD l (Int.toNat (w64 (i - 1))) (0, 0, 0, 0, 0, 0), List.getD l (Int.toNat i) (0, 0, 0, 0, 0, 0))).bind fun o_11 =>
            bif o_11 then
             (rf06_Right_L1 k (l, i, 0)).bind fun o_13 =>
              match o_13 with
              | .inl o_14 =>
               rf06_Right_L0 k (o_14.1, w64 (o_14.2 + 1))
              | .inr o_14 =>
               some (Sum.inr o_14)
            else
             some (Sum.inr false)
          else
           none
         else
          none
        else
         none
       else
        none
      else
       (rf06_Right_L1 k (l, i, 0)).bind fun o_7 =>
        match o_7 with
        | .inl o_8 =>
         rf06_Right_L0 k (o_8.1, w64 (o_8.2 + 1))
        | .inr o_8 =>
         some (Sum.inr o_8)
     else
      some (Sum.inr false)
   else
    none
  else
   none
 else
  some (Sum.inl l)
def rf06_Right (k : Nat) : (List GContact) → Option (Bool) := fun (l) =>
  (rf06_Right_L0 k (l, 0)).bind fun o_1 =>
  match o_1 with
  | .inl o_2 =>
   bif decide (Int.ofNat (List.length o_2) ≤ 4096) then
    some (true)
   else
    some (false)
  | .inr o_2 =>
   some (o_2)
noncomputable def rf06_Right_e := entOf (P := Tryz.prog) (A := [.one (.row 34 kGContact)]) (R := [.one (.sc (.bool))]) Tryz.f83 rf06_Right (fun k => ⟨[rf03_Contact_e k, rf06_less_e k, rf06_overlap_e k], [], [hkStr Tryz.prog]⟩) [some ⟨0, [(0, .one (.ro kGContact)), (3, .one (.sc (.int .i64)))], [(0, .one (.ro kGContact))], rf06_Right_L0⟩, some ⟨2, [(0, .one (.ro kGContact)), (3, .one (.sc (.int .i64))), (5, .one (.sc (.int .i64)))], [(0, .one (.ro kGContact)), (3, .one (.sc (.int .i64)))], rf06_Right_L1⟩] Tryz.func83 (by kernel_rfl) (by kernel_rfl) ⟨⟨fun _ => rfl, fun k x => by kernel_rfl⟩, ⟨⟨fun _ => rfl, fun k x => by kernel_rfl⟩, trivial⟩⟩ (fun k x => by kernel_rfl) fun _ _ => by kernel_rfl
def rf06_Same_L0 : Nat → ((List GContact) × (List GContact) × Int) → Option ((Unit) ⊕ (Bool))
  | 0, _ => none
  | k + 1, (a, b, i) =>
  bif decide (i < Int.ofNat (List.length a)) then
  bif decide (0 ≤ i) then
   bif decide (i < Int.ofNat (List.length a)) then
    bif decide (0 ≤ i) then
     bif decide (i < Int.ofNat (List.length b)) then
      bif !((List.getD a (Int.toNat i) (0, 0, 0, 0, 0, 0)).1 == (List.getD b (Int.toNat i) (0, 0, 0, 0, 0, 0)).1 && ((List.getD a (Int.toNat i) (0, 0, 0, 0, 0, 0)).2.1 == (List.getD b (Int.toNat i) (0, 0, 0, 0, 0, 0)).2.1 && ((List.getD a (Int.toNat i) (0, 0, 0, 0, 0, 0)).2.2.1 == (List.getD b (Int.toNat i) (0, 0, 0, 0, 0, 0)).2.2.1 && ((List.getD a (Int.toNat i) (0, 0, 0, 0, 0, 0)).2.2.2.1 == (List.getD b (Int.toNat i) (0, 0, 0, 0, 0, 0)).2.2.2.1 && ((List.getD a (Int.toNat i) (0, 0, 0, 0, 0, 0)).2.2.2.2.1 == (List.getD b (Int.toNat i) (0, 0, 0, 0, 0, 0)).2.2.2.2.1 && (List.getD a (Int.toNat i) (0, 0, 0, 0, 0, 0)).2.2.2.2.2 == (List.getD b (Int.toNat i) (0, 0, 0, 0, 0, 0)).2.2.2.2.2))))) then
       some (Sum.inr false)
      else
       rf06_Same_L0 k (a, b, w64 (i + 1))
     else
      none
    else
     none
   else
    none
  else
   none
 else
  some (Sum.inl ())
def rf06_Same (k : Nat) : ((List GContact) × (List GContact)) → Option (Bool) := fun (a, b) =>
  bif !decide (Int.ofNat (List.length a) = Int.ofNat (List.length b)) then
  some (false)
 else
  (rf06_Same_L0 k (a, b, 0)).bind fun o_2 =>
   match o_2 with
   | .inl o_3 =>
    some (true)
   | .inr o_3 =>
    some (o_3)
noncomputable def rf06_Same_e := entOf (P := Tryz.prog) (A := [.one (.row 34 kGContact), .one (.row 34 kGContact)]) (R := [.one (.sc (.bool))]) Tryz.f86 rf06_Same (fun k => ⟨[], [], [hkStr Tryz.prog]⟩) [some ⟨0, [(0, .one (.ro kGContact)), (1, .one (.ro kGContact)), (5, .one (.sc (.int .i64)))], [], rf06_Same_L0⟩] Tryz.func86 (by kernel_rfl) (by kernel_rfl) ⟨⟨fun _ => rfl, fun k x => by kernel_rfl⟩, trivial⟩ (fun k x => by kernel_rfl) fun _ _ => by kernel_rfl
def rf06_Copy (k : Nat) : (List GContact) → Option (List GContact) := fun (l) =>
  bif decide ((0 + List.length l) * 48 ≤ 140737488355328) then
  some (l)
 else
  none
noncomputable def rf06_Copy_e := entOf (P := Tryz.prog) (A := [.one (.row 34 kGContact)]) (R := [.one (.row 34 kGContact)]) Tryz.f189 rf06_Copy (fun k => ⟨[], [], [hkStr Tryz.prog]⟩) [] Tryz.func189 (by kernel_rfl) (by kernel_rfl) trivial (fun k x => by kernel_rfl) fun _ _ => by kernel_rfl
def rf06_Find_L0 : Nat → ((List GContact) × Int × GContact × Int) → Option ((GContact) ⊕ (GContact × Bool))
  | 0, _ => none
  | k + 1, (l, id, t4, i) =>
  bif decide (i < Int.ofNat (List.length l)) then
  bif decide (0 ≤ i) then
   bif decide (i < Int.ofNat (List.length l)) then
    bif decide ((List.getD l (Int.toNat i) (0, 0, 0, 0, 0, 0)).1 = id) then
     bif decide (0 ≤ i) then
      bif decide (i < Int.ofNat (List.length l)) then
       some (Sum.inr (List.getD l (Int.toNat i) (0, 0, 0, 0, 0, 0), true))
      else
       none
     else
      none
    else
     rf06_Find_L0 k (l, id, t4, w64 (i + 1))
   else
    none
  else
   none
 else
  some (Sum.inl t4)
def rf06_Find (k : Nat) : ((List GContact) × Int) → Option (GContact × Bool) := fun (l, id) =>
  (rf06_Find_L0 k (l, id, (0, 0, 0, 0, 0, 0), 0)).bind fun o_1 =>
  match o_1 with
  | .inl o_2 =>
   some (((0, 0, 0, 0, 0, 0), false))
  | .inr o_2 =>
   some (o_2)
noncomputable def rf06_Find_e := entOf (P := Tryz.prog) (A := [.one (.row 34 kGContact), .one (.sc (.int .i64))]) (R := [.agg lGContact, .one (.sc (.bool))]) Tryz.f43 rf06_Find (fun k => ⟨[], [], [hkStr Tryz.prog]⟩) [some ⟨0, [(0, .one (.ro kGContact)), (1, .one (.sc (.int .i64))), (4, .box 34 toGContact), (6, .one (.sc (.int .i64)))], [(4, .box 34 toGContact)], rf06_Find_L0⟩] Tryz.func43 (by kernel_rfl) (by kernel_rfl) ⟨⟨fun _ => rfl, fun k x => by kernel_rfl⟩, trivial⟩ (fun k x => by kernel_rfl) fun _ _ => by kernel_rfl
def rf06_Add_L0 : Nat → ((List GContact) × GContact × Int × Int) → Option (((List GContact) × GContact × Int) ⊕ ((List GContact) × Int))
  | 0, _ => none
  | k + 1, (l, c3, k8, i) =>
  bif decide (i < Int.ofNat (List.length l)) then
  bif decide (0 ≤ i) then
   bif decide (i < Int.ofNat (List.length l)) then
    (rf06_overlap k (List.getD l (Int.toNat i) (0, 0, 0, 0, 0, 0), c3)).bind fun o_4 =>
     bif o_4 then
      (rf06_Copy k l).bind fun o_6 =>
       some (Sum.inr (o_6, 5))
     else
      bif decide (0 ≤ i) then
       bif decide (i < Int.ofNat (List.length l)) then
        (rf06_less k (List.getD l (Int.toNat i) (0, 0, 0, 0, 0, 0), c3)).bind fun o_8 =>
         bif o_8 then
          rf06_Add_L0 k (l, c3, w64 (i + 1), w64 (i + 1))
         else
          rf06_Add_L0 k (l, c3, k8, w64 (i + 1))
       else
        none
      else
       none
   else
    none
  else
   none
 else
  some (Sum.inl (l, c3, k8))
def rf06_Add (k : Nat) : ((List GContact) × GContact) → Option ((List GContact) × Int) := fun (l, c1) =>
  (rf03_Contact k c1).bind fun o_1 =>
  bif o_1 then
   bif decide (4096 ≤ Int.ofNat (List.length l)) then
    (rf06_Copy k l).bind fun o_4 =>
     some ((o_4, 3))
   else
    (rf06_Find k (l, c1.1)).bind fun o_4 =>
     bif o_4.2 then
      (rf06_Copy k l).bind fun o_6 =>
       some ((o_6, 4))
     else
      (rf06_Add_L0 k (l, c1, 0, 0)).bind fun o_6 =>
       match o_6 with
       | .inl o_7 =>
        bif decide (0 ≤ o_7.2.2) then
         bif decide (o_7.2.2 ≤ Int.ofNat (List.length o_7.1)) then
          (rf06_Copy k (List.take (Int.toNat o_7.2.2) o_7.1)).bind fun o_10 =>
           bif decide ((List.length o_10 + List.length [o_7.2.1]) * 48 ≤ 140737488355328) then
            bif decide (0 ≤ o_7.2.2) then
             bif decide (o_7.2.2 ≤ Int.ofNat (List.length o_7.1)) then
              bif decide ((List.length (o_10 ++ [o_7.2.1]) + List.length (List.drop (Int.toNat o_7.2.2) o_7.1)) * 48 ≤ 140737488355328) then
               some ((o_10 ++ [o_7.2.1] ++ List.drop (Int.toNat o_7.2.2) o_7.1, 0))
              else
               none
             else
              none
            else
             none
           else
            none
         else
          none
        else
         none
       | .inr o_7 =>
        some (o_7)
  else
   (rf06_Copy k l).bind fun o_3 =>
    some ((o_3, 1))
noncomputable def rf06_Add_e := entOf (P := Tryz.prog) (A := [.one (.row 34 kGContact), .agg lGContact]) (R := [.one (.row 34 kGContact), .one (.sc (.int .i64))]) Tryz.f141 rf06_Add (fun k => ⟨[rf06_Find_e k, rf03_Contact_e k, rf06_less_e k, rf06_overlap_e k, rf06_Copy_e k], [], [hkStr Tryz.prog]⟩) [some ⟨0, [(0, .one (.ro kGContact)), (3, .box 34 trGContact), (8, .one (.sc (.int .i64))), (9, .one (.sc (.int .i64)))], [(0, .one (.ro kGContact)), (3, .box 34 trGContact), (8, .one (.sc (.int .i64)))], rf06_Add_L0⟩] Tryz.func141 (by kernel_rfl) (by kernel_rfl) ⟨⟨fun _ => rfl, fun k x => by kernel_rfl⟩, trivial⟩ (fun k x => by kernel_rfl) fun _ _ => by kernel_rfl
def rf06_Delete_L0 : Nat → ((List GContact) × Int × (List GContact) × Int) → Option (((List GContact) × (List GContact)) ⊕ ((List GContact) × Int))
  | 0, _ => none
  | k + 1, (l, id, out6, i) =>
  bif decide (i < Int.ofNat (List.length l)) then
  bif decide (0 ≤ i) then
   bif decide (i < Int.ofNat (List.length l)) then
    bif !decide ((List.getD l (Int.toNat i) (0, 0, 0, 0, 0, 0)).1 = id) then
     bif decide (0 ≤ i) then
      bif decide (i < Int.ofNat (List.length l)) then
       bif decide ((List.length out6 + List.length [List.getD l (Int.toNat i) (0, 0, 0, 0, 0, 0)]) * 48 ≤ 140737488355328) then
        rf06_Delete_L0 k (l, id, out6 ++ [List.getD l (Int.toNat i) (0, 0, 0, 0, 0, 0)], w64 (i + 1))
       else
        none
      else
       none
     else
      none
    else
     rf06_Delete_L0 k (l, id, out6, w64 (i + 1))
   else
    none
  else
   none
 else
  some (Sum.inl (l, out6))
def rf06_Delete (k : Nat) : ((List GContact) × Int) → Option ((List GContact) × Int) := fun (l, id) =>
  (rf06_Delete_L0 k (l, id, [], 0)).bind fun o_1 =>
  match o_1 with
  | .inl o_2 =>
   bif decide (Int.ofNat (List.length o_2.2) = Int.ofNat (List.length o_2.1)) then
    some ((o_2.2, 6))
   else
    some ((o_2.2, 0))
  | .inr o_2 =>
   some (o_2)
noncomputable def rf06_Delete_e := entOf (P := Tryz.prog) (A := [.one (.row 34 kGContact), .one (.sc (.int .i64))]) (R := [.one (.row 34 kGContact), .one (.sc (.int .i64))]) Tryz.f143 rf06_Delete (fun k => ⟨[], [], [hkStr Tryz.prog]⟩) [some ⟨0, [(0, .one (.ro kGContact)), (1, .one (.sc (.int .i64))), (6, .one (.own 34 kGContact)), (7, .one (.sc (.int .i64)))], [(0, .one (.ro kGContact)), (6, .one (.own 34 kGContact))], rf06_Delete_L0⟩] Tryz.func143 (by kernel_rfl) (by kernel_rfl) ⟨⟨fun _ => rfl, fun k x => by kernel_rfl⟩, trivial⟩ (fun k x => by kernel_rfl) fun _ _ => by kernel_rfl
def rf06_Change_L0 : Nat → (Int × Int × (List GContact) × Int) → Option ((List GContact) ⊕ ((List GContact) × Int))
  | 0, _ => none
  | k + 1, (id, rate, out8, i) =>
  bif decide (i < Int.ofNat (List.length out8)) then
  bif decide (0 ≤ i) then
   bif decide (i < Int.ofNat (List.length out8)) then
    bif decide ((List.getD out8 (Int.toNat i) (0, 0, 0, 0, 0, 0)).1 = id) then
     bif decide (0 ≤ i) then
      bif decide (i < Int.ofNat (List.length out8)) then
       some (Sum.inr (List.set out8 (Int.toNat i) ((List.getD out8 (Int.toNat i) (0, 0, 0, 0, 0, 0)).1, (List.getD out8 (Int.toNat i) (0, 0, 0, 0, 0, 0)).2.1, (List.getD out8 (Int.toNat i) (0, 0, 0, 0, 0, 0)).2.2.1, (List.getD out8 (Int.toNat i) (0, 0, 0, 0, 0, 0)).2.2.2.1, (List.getD out8 (Int.toNat i) (0, 0, 0, 0, 0, 0)).2.2.2.2.1, rate), 0))
      else
       none
     else
      none
    else
     rf06_Change_L0 k (id, rate, out8, w64 (i + 1))
   else
    none
  else
   none
 else
  some (Sum.inl out8)
def rf06_Change (k : Nat) : ((List GContact) × Int × Int) → Option ((List GContact) × Int) := fun (l, id, rate) =>
  (rf06_Copy k l).bind fun o_1 =>
  bif decide (rate < 1) then
   some ((o_1, 1))
  else
   bif decide (2147483647 < rate) then
    some ((o_1, 1))
   else
    (rf06_Change_L0 k (id, rate, o_1, 0)).bind fun o_4 =>
     match o_4 with
     | .inl o_5 =>
      some ((o_5, 6))
     | .inr o_5 =>
      some (o_5)
noncomputable def rf06_Change_e := entOf (P := Tryz.prog) (A := [.one (.row 34 kGContact), .one (.sc (.int .i64)), .one (.sc (.int .i64))]) (R := [.one (.row 34 kGContact), .one (.sc (.int .i64))]) Tryz.f145 rf06_Change (fun k => ⟨[rf06_Copy_e k], [], [hkStr Tryz.prog]⟩) [some ⟨0, [(1, .one (.sc (.int .i64))), (2, .one (.sc (.int .i64))), (8, .one (.own 34 kGContact)), (9, .one (.sc (.int .i64)))], [(8, .one (.own 34 kGContact))], rf06_Change_L0⟩] Tryz.func145 (by kernel_rfl) (by kernel_rfl) ⟨⟨fun _ => rfl, fun k x => by kernel_rfl⟩, trivial⟩ (fun k x => by kernel_rfl) fun _ _ => by kernel_rfl
def rf06_Expire_L1 : Nat → ((List GContact) × Int × (List GContact) × (List Int) × Int × Int) → Option (((List GContact) × Int × (List GContact) × (List Int) × Int) ⊕ ((List GContact) × (List Int)))
  | 0, _ => none
  | k + 1, (l, now, out6, gone, i, k9) =>
  bif decide (0 < k9) then
  bif decide (0 ≤ w64 (k9 - 1)) then
   bif decide (w64 (k9 - 1) < Int.ofNat (List.length gone)) then
    bif decide (0 ≤ k9) then
     bif decide (k9 < Int.ofNat (List.length gone)) then
      bif decide (List.getD gone (Int.toNat k9) 0 < List.getD gone (Int.toNat (w64 (k9 - 1))) 0) then
       bif decide (0 ≤ w64 (k9 - 1)) then
        bif decide (w64 (k9 - 1) < Int.ofNat (List.length gone)) then
         bif decide (0 ≤ k9) then
          bif decide (k9 < Int.ofNat (List.length gone)) then
           bif decide (0 ≤ w64 (k9 - 1)) then
            bif decide (w64 (k9 - 1) < Int.ofNat (List.length gone)) then
             bif decide (0 ≤ k9) then
              bif decide (k9 < Int.ofNat (List.length (List.set gone (Int.toNat (w64 (k9 - 1))) (List.getD gone (Int.toNat k9) 0)))) then
               rf06_Expire_L1 k (l, now, out6, List.set (List.set gone (Int.toNat (w64 (k9 - 1))) (List.getD gone (Int.toNat k9) 0)) (Int.toNat k9) (List.getD gone (Int.toNat (w64 (k9 - 1))) 0), i, w64 (k9 - 1))
              else
               none
             else
              none
            else
             none
           else
            none
          else
           none
         else
          none
        else
         none
       else
        none
      else
       some (Sum.inl (l, now, out6, gone, i))
     else
      none
    else
     none
   else
    none
  else
   none
 else
  some (Sum.inl (l, now, out6, gone, i))
def rf06_Expire_L0 : Nat → ((List GContact) × Int × (List GContact) × (List Int) × Int) → Option (((List GContact) × (List Int)) ⊕ ((List GContact) × (List Int)))
  | 0, _ => none
  | k + 1, (l, now, out6, gone, i) =>
  bif decide (i < Int.ofNat (List.length l)) then
  bif decide (0 ≤ i) then
   bif decide (i < Int.ofNat (List.length l)) then
    bif decide (now < (List.getD l (Int.toNat i) (0, 0, 0, 0, 0, 0)).2.2.2.2.1) then
     bif decide (0 ≤ i) then
      bif decide (i < Int.ofNat (List.length l)) then
       bif decide ((List.length out6 + List.length [List.getD l (Int.toNat i) (0, 0, 0, 0, 0, 0)]) * 48 ≤ 140737488355328) then
        rf06_Expire_L0 k (l, now, out6 ++ [List.getD l (Int.toNat i) (0, 0, 0, 0, 0, 0)], gone, w64 (i + 1))
       else
        none
      else
       none
     else
      none
    else
     bif decide (0 ≤ i) then
      bif decide (i < Int.ofNat (List.length l)) then
       bif decide ((List.length gone + List.length [(List.getD l (Int.toNat i) (0, 0, 0, 0, 0, 0)).1]) * 8 ≤ 140737488355328) then
        (rf06_Expire_L1 k (l, now, out6, gone ++ [(List.getD l (Int.toNat i) (0, 0, 0, 0, 0, 0)).1], i, Int.ofNat (List.length gone))).bind fun o_8 =>
         match o_8 with
         | .inl o_9 =>
          rf06_Expire_L0 k (o_9.1, o_9.2.1, o_9.2.2.1, o_9.2.2.2.1, w64 (o_9.2.2.2.2 + 1))
         | .inr o_9 =>
          some (Sum.inr o_9)
       else
        none
      else
       none
     else
      none
   else
    none
  else
   none
 else
  some (Sum.inl (out6, gone))
def rf06_Expire (k : Nat) : ((List GContact) × Int) → Option ((List GContact) × (List Int)) := fun (l, now) =>
  (rf06_Expire_L0 k (l, now, [], [], 0)).bind fun o_1 =>
  match o_1 with
  | .inl o_2 =>
   some (o_2)
  | .inr o_2 =>
   some (o_2)
noncomputable def rf06_Expire_e := entOf (P := Tryz.prog) (A := [.one (.row 34 kGContact), .one (.sc (.int .i64))]) (R := [.one (.row 34 kGContact), .one (.row 3 [.int .i64])]) Tryz.f150 rf06_Expire (fun k => ⟨[], [], [hkStr Tryz.prog]⟩) [some ⟨0, [(0, .one (.ro kGContact)), (1, .one (.sc (.int .i64))), (6, .one (.own 34 kGContact)), (7, .one (.own 3 [.int .i64])), (8, .one (.sc (.int .i64)))], [(6, .one (.own 34 kGContact)), (7, .one (.own 3 [.int .i64]))], rf06_Expire_L0⟩, some ⟨2, [(0, .one (.ro kGContact)), (1, .one (.sc (.int .i64))), (6, .one (.own 34 kGContact)), (7, .one (.own 3 [.int .i64])), (8, .one (.sc (.int .i64))), (9, .one (.sc (.int .i64)))], [(0, .one (.ro kGContact)), (1, .one (.sc (.int .i64))), (6, .one (.own 34 kGContact)), (7, .one (.own 3 [.int .i64])), (8, .one (.sc (.int .i64)))], rf06_Expire_L1⟩] Tryz.func150 (by kernel_rfl) (by kernel_rfl) ⟨⟨fun _ => rfl, fun k x => by kernel_rfl⟩, ⟨⟨fun _ => rfl, fun k x => by kernel_rfl⟩, trivial⟩⟩ (fun k x => by kernel_rfl) fun _ _ => by kernel_rfl
def contacts_of_1 (k : Nat) : (GContact × Int) → Option (Bool) := fun (c0, t1) =>
  bif decide (c0.1 = t1) then
  some (true)
 else
  some (false)
noncomputable def contacts_of_1_e := entOf (P := Tryz.prog) (A := [.agg lGContact, .one (.ptr [.int .i64])]) (R := [.one (.sc (.bool))]) Tryz.f101 contacts_of_1 (fun k => ⟨[], [], [hkStr Tryz.prog]⟩) [] Tryz.func101 (by kernel_rfl) (by kernel_rfl) trivial (fun k x => by kernel_rfl) fun _ _ => by kernel_rfl
def contacts_Add_1 (k : Nat) : (GContact × GContact) → Option (Bool) := fun (x0, t1) =>
  (contacts_overlap k (x0, t1)).bind fun o_1 =>
  bif o_1 then
   some (true)
  else
   some (false)
noncomputable def contacts_Add_1_e := entOf (P := Tryz.prog) (A := [.agg lGContact, .one (.ptr [.int .i64, .int .i64, .int .i64, .int .i64, .int .i64, .int .i64])]) (R := [.one (.sc (.bool))]) Tryz.f170 contacts_Add_1 (fun k => ⟨[contacts_overlap_e k], [], [hkStr Tryz.prog]⟩) [] Tryz.func170 (by kernel_rfl) (by kernel_rfl) trivial (fun k x => by kernel_rfl) fun _ _ => by kernel_rfl
def contacts_of (k : Nat) : Int → Option (Int) := fun (id) =>
  some (id)
noncomputable def contacts_of_e := entOf (P := Tryz.prog) (A := [.one (.sc (.int .i64))]) (R := [.one (.fnc 101 [[.int .i64]])]) Tryz.f58 contacts_of (fun k => ⟨[], [], [hkStr Tryz.prog]⟩) [] Tryz.func58 (by kernel_rfl) (by kernel_rfl) trivial (fun k x => by kernel_rfl) fun _ _ => by kernel_rfl
def plan_Right_1 (k : Nat) : (GContact × GPlan) → Option (Bool) := fun (c0, t1) =>
  bif decide (c0.2.2.2.2.1 ≤ t1.2.2.1) then
  some (true)
 else
  some (false)
noncomputable def plan_Right_1_e := entOf (P := Tryz.prog) (A := [.agg lGContact, .one (.ptr [.row kGContact, .row kGRange, .int .i64, .int .i64])]) (R := [.one (.sc (.bool))]) Tryz.f75 plan_Right_1 (fun k => ⟨[], [], [hkStr Tryz.prog]⟩) [] Tryz.func75 (by kernel_rfl) (by kernel_rfl) trivial (fun k x => by kernel_rfl) fun _ _ => by kernel_rfl
def plan_Right_2 (k : Nat) : (GRange × GPlan) → Option (Bool) := fun (r, t1) =>
  bif decide (r.2.2.2.1 ≤ t1.2.2.1) then
  some (true)
 else
  some (false)
noncomputable def plan_Right_2_e := entOf (P := Tryz.prog) (A := [.agg lGRange, .one (.ptr [.row kGContact, .row kGRange, .int .i64, .int .i64])]) (R := [.one (.sc (.bool))]) Tryz.f76 plan_Right_2 (fun k => ⟨[], [], [hkStr Tryz.prog]⟩) [] Tryz.func76 (by kernel_rfl) (by kernel_rfl) trivial (fun k x => by kernel_rfl) fun _ _ => by kernel_rfl
def IndexFunc_of_L0 : Nat → ((List GContact) × Int × Int × Int) → Option ((Unit) ⊕ (Int))
  | 0, _ => none
  | k + 1, (s, f, t7, t8) =>
  bif decide (t8 < t7) then
  bif decide (0 ≤ t8) then
   bif decide (t8 < Int.ofNat (List.length s)) then
    (contacts_of_1 k (List.getD s (Int.toNat t8) (0, 0, 0, 0, 0, 0), f)).bind fun o_4 =>
     bif o_4 then
      some (Sum.inr t8)
     else
      IndexFunc_of_L0 k (s, f, t7, w64 (t8 + 1))
   else
    none
  else
   none
 else
  some (Sum.inl ())
def IndexFunc_of (k : Nat) : ((List GContact) × Int) → Option (Int) := fun (s, f) =>
  (IndexFunc_of_L0 k (s, f, Int.ofNat (List.length s), 0)).bind fun o_1 =>
  match o_1 with
  | .inl o_2 =>
   some (-1)
  | .inr o_2 =>
   some (o_2)
noncomputable def IndexFunc_of_e := entOf (P := Tryz.prog) (A := [.one (.row 34 kGContact), .one (.fnc 101 [[.int .i64]])]) (R := [.one (.sc (.int .i64))]) Tryz.f57 IndexFunc_of (fun k => ⟨[contacts_of_1_e k], [], [hkStr Tryz.prog]⟩) [some ⟨0, [(0, .one (.ro kGContact)), (1, .fnp 101 [[.int .i64]]), (7, .one (.sc (.int .i64))), (8, .one (.sc (.int .i64)))], [], IndexFunc_of_L0⟩] Tryz.func57 (by kernel_rfl) (by kernel_rfl) ⟨⟨fun _ => rfl, fun k x => by kernel_rfl⟩, trivial⟩ (fun k x => by kernel_rfl) fun _ _ => by kernel_rfl
def IndexFunc_ov_L0 : Nat → ((List GContact) × GContact × Int × Int) → Option ((Unit) ⊕ (Int))
  | 0, _ => none
  | k + 1, (s, f, t7, t8) =>
  bif decide (t8 < t7) then
  bif decide (0 ≤ t8) then
   bif decide (t8 < Int.ofNat (List.length s)) then
    (contacts_Add_1 k (List.getD s (Int.toNat t8) (0, 0, 0, 0, 0, 0), f)).bind fun o_4 =>
     bif o_4 then
      some (Sum.inr t8)
     else
      IndexFunc_ov_L0 k (s, f, t7, w64 (t8 + 1))
   else
    none
  else
   none
 else
  some (Sum.inl ())
def IndexFunc_ov (k : Nat) : ((List GContact) × GContact) → Option (Int) := fun (s, f) =>
  (IndexFunc_ov_L0 k (s, f, Int.ofNat (List.length s), 0)).bind fun o_1 =>
  match o_1 with
  | .inl o_2 =>
   some (-1)
  | .inr o_2 =>
   some (o_2)
noncomputable def IndexFunc_ov_e := entOf (P := Tryz.prog) (A := [.one (.row 34 kGContact), .one (.fnc 170 [[.int .i64, .int .i64, .int .i64, .int .i64, .int .i64, .int .i64]])]) (R := [.one (.sc (.int .i64))]) Tryz.f57 IndexFunc_ov (fun k => ⟨[contacts_Add_1_e k], [], [hkStr Tryz.prog]⟩) [some ⟨0, [(0, .one (.ro kGContact)), (1, .fnp 170 [[.int .i64, .int .i64, .int .i64, .int .i64, .int .i64, .int .i64]]), (7, .one (.sc (.int .i64))), (8, .one (.sc (.int .i64)))], [], IndexFunc_ov_L0⟩] Tryz.func57 (by kernel_rfl) (by kernel_rfl) ⟨⟨fun _ => rfl, fun k x => by kernel_rfl⟩, trivial⟩ (fun k x => by kernel_rfl) fun _ _ => by kernel_rfl
def IndexFunc_r1_L0 : Nat → ((List GContact) × GPlan × Int × Int) → Option ((Unit) ⊕ (Int))
  | 0, _ => none
  | k + 1, (s, f, t7, t8) =>
  bif decide (t8 < t7) then
  bif decide (0 ≤ t8) then
   bif decide (t8 < Int.ofNat (List.length s)) then
    (plan_Right_1 k (List.getD s (Int.toNat t8) (0, 0, 0, 0, 0, 0), f)).bind fun o_4 =>
     bif o_4 then
      some (Sum.inr t8)
     else
      IndexFunc_r1_L0 k (s, f, t7, w64 (t8 + 1))
   else
    none
  else
   none
 else
  some (Sum.inl ())
def IndexFunc_r1 (k : Nat) : ((List GContact) × GPlan) → Option (Int) := fun (s, f) =>
  (IndexFunc_r1_L0 k (s, f, Int.ofNat (List.length s), 0)).bind fun o_1 =>
  match o_1 with
  | .inl o_2 =>
   some (-1)
  | .inr o_2 =>
   some (o_2)
noncomputable def IndexFunc_r1_e := entOf (P := Tryz.prog) (A := [.one (.row 34 kGContact), .one (.fnc 75 [[.row kGContact, .row kGRange, .int .i64, .int .i64]])]) (R := [.one (.sc (.int .i64))]) Tryz.f57 IndexFunc_r1 (fun k => ⟨[plan_Right_1_e k], [], [hkStr Tryz.prog]⟩) [some ⟨0, [(0, .one (.ro kGContact)), (1, .fnp 75 [[.row kGContact, .row kGRange, .int .i64, .int .i64]]), (7, .one (.sc (.int .i64))), (8, .one (.sc (.int .i64)))], [], IndexFunc_r1_L0⟩] Tryz.func57 (by kernel_rfl) (by kernel_rfl) ⟨⟨fun _ => rfl, fun k x => by kernel_rfl⟩, trivial⟩ (fun k x => by kernel_rfl) fun _ _ => by kernel_rfl
def ContainsFunc_of (k : Nat) : ((List GContact) × Int) → Option (Bool) := fun (s, f) =>
  (IndexFunc_of k (s, f)).bind fun o_1 =>
  bif decide (0 ≤ o_1) then
   some (true)
  else
   some (false)
noncomputable def ContainsFunc_of_e := entOf (P := Tryz.prog) (A := [.one (.row 34 kGContact), .one (.fnc 101 [[.int .i64]])]) (R := [.one (.sc (.bool))]) Tryz.f77 ContainsFunc_of (fun k => ⟨[IndexFunc_of_e k, IndexFunc_ov_e k, IndexFunc_r1_e k, contacts_of_1_e k], [], [hkStr Tryz.prog]⟩) [] Tryz.func77 (by kernel_rfl) (by kernel_rfl) trivial (fun k x => by kernel_rfl) fun _ _ => by kernel_rfl
def ContainsFunc_ov (k : Nat) : ((List GContact) × GContact) → Option (Bool) := fun (s, f) =>
  (IndexFunc_ov k (s, f)).bind fun o_1 =>
  bif decide (0 ≤ o_1) then
   some (true)
  else
   some (false)
noncomputable def ContainsFunc_ov_e := entOf (P := Tryz.prog) (A := [.one (.row 34 kGContact), .one (.fnc 170 [[.int .i64, .int .i64, .int .i64, .int .i64, .int .i64, .int .i64]])]) (R := [.one (.sc (.bool))]) Tryz.f77 ContainsFunc_ov (fun k => ⟨[IndexFunc_of_e k, IndexFunc_ov_e k, IndexFunc_r1_e k, contacts_Add_1_e k], [], [hkStr Tryz.prog]⟩) [] Tryz.func77 (by kernel_rfl) (by kernel_rfl) trivial (fun k x => by kernel_rfl) fun _ _ => by kernel_rfl
def ContainsFunc_r1 (k : Nat) : ((List GContact) × GPlan) → Option (Bool) := fun (s, f) =>
  (IndexFunc_r1 k (s, f)).bind fun o_1 =>
  bif decide (0 ≤ o_1) then
   some (true)
  else
   some (false)
noncomputable def ContainsFunc_r1_e := entOf (P := Tryz.prog) (A := [.one (.row 34 kGContact), .one (.fnc 75 [[.row kGContact, .row kGRange, .int .i64, .int .i64]])]) (R := [.one (.sc (.bool))]) Tryz.f77 ContainsFunc_r1 (fun k => ⟨[IndexFunc_of_e k, IndexFunc_ov_e k, IndexFunc_r1_e k, plan_Right_1_e k], [], [hkStr Tryz.prog]⟩) [] Tryz.func77 (by kernel_rfl) (by kernel_rfl) trivial (fun k x => by kernel_rfl) fun _ _ => by kernel_rfl
def BinarySearchFunc_C_L0 : Nat → ((List GContact) × Unit × GContact × Int × Int × Int) → Option (((List GContact) × Unit × GContact × Int × Int) ⊕ (Int × Bool))
  | 0, _ => none
  | k + 1, (x0, cmp, target, n, i, j) =>
  bif decide (i < j) then
  bif decide (0 ≤ w64 (Int.fdiv (IntKind.wrap IntKind.u64 (w64 (i + j))) (2 ^ min (Int.toNat 1) 64))) then
   bif decide (w64 (Int.fdiv (IntKind.wrap IntKind.u64 (w64 (i + j))) (2 ^ min (Int.toNat 1) 64)) < Int.ofNat (List.length x0)) then
    (contacts_Compare k (List.getD x0 (Int.toNat (w64 (Int.fdiv (IntKind.wrap IntKind.u64 (w64 (i + j))) (2 ^ min (Int.toNat 1) 64)))) (0, 0, 0, 0, 0, 0), target)).bind fun o_4 =>
     bif decide (o_4 < 0) then
      BinarySearchFunc_C_L0 k (x0, (), target, n, w64 (w64 (Int.fdiv (IntKind.wrap IntKind.u64 (w64 (i + j))) (2 ^ min (Int.toNat 1) 64)) + 1), j)
     else
      BinarySearchFunc_C_L0 k (x0, (), target, n, i, w64 (Int.fdiv (IntKind.wrap IntKind.u64 (w64 (i + j))) (2 ^ min (Int.toNat 1) 64)))
   else
    none
  else
   none
 else
  some (Sum.inl (x0, (), target, n, i))
def BinarySearchFunc_C (k : Nat) : ((List GContact) × GContact × Unit) → Option (Int × Bool) := fun (x0, target, cmp) =>
  (BinarySearchFunc_C_L0 k (x0, (), target, Int.ofNat (List.length x0), 0, Int.ofNat (List.length x0))).bind fun o_1 =>
  match o_1 with
  | .inl o_2 =>
   bif decide (o_2.2.2.2.2 < o_2.2.2.2.1) then
    bif decide (0 ≤ o_2.2.2.2.2) then
     bif decide (o_2.2.2.2.2 < Int.ofNat (List.length o_2.1)) then
      (contacts_Compare k (List.getD o_2.1 (Int.toNat o_2.2.2.2.2) (0, 0, 0, 0, 0, 0), o_2.2.2.1)).bind fun o_6 =>
       bif decide (o_6 = 0) then
        some ((o_2.2.2.2.2, true))
       else
        some ((o_2.2.2.2.2, false))
     else
      none
    else
     none
   else
    some ((o_2.2.2.2.2, false))
  | .inr o_2 =>
   some (o_2)
noncomputable def BinarySearchFunc_C_e := entOf (P := Tryz.prog) (A := [.one (.row 34 kGContact), .agg lGContact, .one (.fnc 129 [])]) (R := [.one (.sc (.int .i64)), .one (.sc (.bool))]) Tryz.f171 BinarySearchFunc_C (fun k => ⟨[contacts_Compare_e k], [], [hkStr Tryz.prog]⟩) [some ⟨0, [(0, .one (.ro kGContact)), (2, .fnp 129 []), (4, .box 34 trGContact), (8, .one (.sc (.int .i64))), (9, .one (.sc (.int .i64))), (10, .one (.sc (.int .i64)))], [(0, .one (.ro kGContact)), (2, .fnp 129 []), (4, .box 34 trGContact), (8, .one (.sc (.int .i64))), (9, .one (.sc (.int .i64)))], BinarySearchFunc_C_L0⟩] Tryz.func171 (by kernel_rfl) (by kernel_rfl) ⟨⟨fun _ => rfl, fun k x => by kernel_rfl⟩, trivial⟩ (fun k x => by kernel_rfl) fun _ _ => by kernel_rfl
def contacts_Find (k : Nat) : ((List GContact) × Int) → Option (GContact × Bool) := fun (l, id) =>
  (contacts_of k id).bind fun o_1 =>
  (IndexFunc_of k (l, o_1)).bind fun o_2 =>
   bif decide (0 ≤ o_2) then
    bif decide (0 ≤ o_2) then
     bif decide (o_2 < Int.ofNat (List.length l)) then
      some ((List.getD l (Int.toNat o_2) (0, 0, 0, 0, 0, 0), true))
     else
      none
    else
     none
   else
    some (((0, 0, 0, 0, 0, 0), false))
noncomputable def contacts_Find_e := entOf (P := Tryz.prog) (A := [.one (.row 34 kGContact), .one (.sc (.int .i64))]) (R := [.agg lGContact, .one (.sc (.bool))]) Tryz.f20 contacts_Find (fun k => ⟨[IndexFunc_of_e k, IndexFunc_ov_e k, IndexFunc_r1_e k, contacts_of_e k], [], [hkStr Tryz.prog]⟩) [] Tryz.func20 (by kernel_rfl) (by kernel_rfl) trivial (fun k x => by kernel_rfl) fun _ _ => by kernel_rfl
def contacts_Same (k : Nat) : ((List GContact) × (List GContact)) → Option (Bool) := fun (a, b) =>
  (slices_Equal_api_Contact_api_Contact k (a, b)).bind fun o_1 =>
  bif o_1 then
   some (true)
  else
   some (false)
noncomputable def contacts_Same_e := entOf (P := Tryz.prog) (A := [.one (.row 34 kGContact), .one (.row 34 kGContact)]) (R := [.one (.sc (.bool))]) Tryz.f31 contacts_Same (fun k => ⟨[slices_Equal_api_Contact_api_Contact_e k], [], [hkStr Tryz.prog]⟩) [] Tryz.func31 (by kernel_rfl) (by kernel_rfl) trivial (fun k x => by kernel_rfl) fun _ _ => by kernel_rfl
noncomputable def slices_Clone_api_Contact_api_Contact_c : Code := Tryz.f157.body.getD .skip
def slices_Clone_api_Contact_api_Contact (k : Nat) : (List GContact) → Option (List GContact) := fun s =>
  bif decide ((0 + List.length s) * 48 ≤ 140737488355328) then
  some (s)
 else
  none
noncomputable def slices_Clone_api_Contact_api_Contact_X : Cx Tryz.prog [.one (.row 34 kGContact)] := ⟨fun _ => ⟨[], [], []⟩, Tryz.f157.ntmps, Tryz.f157.results, []⟩
theorem slices_Clone_api_Contact_api_Contact_eq (k : Nat) (x : List GContact) : slices_Clone_api_Contact_api_Contact k x = runAt slices_Clone_api_Contact_api_Contact_X k (restC slices_Clone_api_Contact_api_Contact_c) (cloneS kGContact x) := by kernel_rfl
noncomputable def slices_Clone_api_Contact_api_Contact_e (k : Nat) : Ent Tryz.prog := ⟨157, [.one (.row 34 kGContact)], [.one (.row 34 kGContact)], slices_Clone_api_Contact_api_Contact k, clone_calls (sT := 22) (bT := 4) (e := 34) (rest := restC slices_Clone_api_Contact_api_Contact_c) (X := slices_Clone_api_Contact_api_Contact_X) (k := k) Tryz.func157 (by kernel_rfl) (by kernel_rfl) (by kernel_rfl) (by kernel_rfl) rfl (by kernel_rfl) (by kernel_rfl) (by kernel_rfl) (by kernel_rfl) (by kernel_rfl) (fun l => slices_Clone_api_Contact_api_Contact_eq k l), fun _ _ => by kernel_rfl⟩
def contacts_Right_L0 : Nat → ((List GContact) × (List Int) × (List GContact) × Int × Int) → Option ((List GContact) ⊕ (Bool))
  | 0, _ => none
  | k + 1, (l, had, t7, t8, t9) =>
  bif decide (t9 < t8) then
  bif decide (0 ≤ t9) then
   bif decide (t9 < Int.ofNat (List.length t7)) then
    (check_Contact k (List.getD t7 (Int.toNat t9) (0, 0, 0, 0, 0, 0))).bind fun o_4 =>
     bif o_4 then
      bif hasN (List.getD t7 (Int.toNat t9) (0, 0, 0, 0, 0, 0)).1 had then
       some (Sum.inr false)
      else
       bif decide (0 < t9) then
        bif decide (0 ≤ w64 (t9 - 1)) then
         bif decide (w64 (t9 - 1) < Int.ofNat (List.length l)) then
          (contacts_Compare k (List.getD l (Int.toNat (w64 (t9 - 1))) (0, 0, 0, 0, 0, 0), List.getD t7 (Int.toNat t9) (0, 0, 0, 0, 0, 0))).bind fun o_10 =>
           bif decide (0 ≤ o_10) then
            some (Sum.inr false)
           else
            bif decide (0 ≤ w64 (t9 - 1)) then
             bif decide (w64 (t9 - 1) < Int.ofNat (List.length l)) then
              (contacts_overlap k (List.getD l (Int.toNat (w64 (t9 - 1))) (0, 0, 0, 0, 0, 0), List.getD t7 (Int.toNat t9) (0, 0, 0, 0, 0, 0))).bind fun o_14 =>
               bif o_14 then
                some (Sum.inr false)
               else
                contacts_Right_L0 k (l, putN (List.getD t7 (Int.toNat t9) (0, 0, 0, 0, 0, 0)).1 had, t7, t8, w64 (t9 + 1))
             else
              none
            else
             none
         else
          none
        else
         none
       else
        contacts_Right_L0 k (l, putN (List.getD t7 (Int.toNat t9) (0, 0, 0, 0, 0, 0)).1 had, t7, t8, w64 (t9 + 1))
     else
      some (Sum.inr false)
   else
    none
  else
   none
 else
  some (Sum.inl l)
def contacts_Right (k : Nat) : (List GContact) → Option (Bool) := fun (l) =>
  (contacts_Right_L0 k (l, [], l, Int.ofNat (List.length l), 0)).bind fun o_1 =>
  match o_1 with
  | .inl o_2 =>
   bif decide (Int.ofNat (List.length o_2) ≤ 4096) then
    some (true)
   else
    some (false)
  | .inr o_2 =>
   some (o_2)
noncomputable def contacts_Right_e := entOf (P := Tryz.prog) (A := [.one (.row 34 kGContact)]) (R := [.one (.sc (.bool))]) Tryz.f79 contacts_Right (fun k => ⟨[check_Contact_e k, contacts_Compare_e k, contacts_overlap_e k], [], [hkStr Tryz.prog]⟩) [some ⟨0, [(0, .one (.ro kGContact)), (3, .mset), (7, .one (.ro kGContact)), (8, .one (.sc (.int .i64))), (9, .one (.sc (.int .i64)))], [(0, .one (.ro kGContact))], contacts_Right_L0⟩] Tryz.func79 (by kernel_rfl) (by kernel_rfl) ⟨⟨fun _ => rfl, fun k x => by kernel_rfl⟩, trivial⟩ (fun k x => by kernel_rfl) fun _ _ => by kernel_rfl
def contacts_Change (k : Nat) : ((List GContact) × Int × Int) → Option ((List GContact) × Int) := fun (l, id, rate) =>
  (slices_Clone_api_Contact_api_Contact k l).bind fun o_1 =>
  (contacts_of k id).bind fun o_2 =>
   (IndexFunc_of k (o_1, o_2)).bind fun o_3 =>
    bif decide (rate < 1) then
     some ((o_1, 1))
    else
     bif decide (2147483647 < rate) then
      some ((o_1, 1))
     else
      bif decide (o_3 < 0) then
       some ((o_1, 6))
      else
       bif decide (0 ≤ o_3) then
        bif decide (o_3 < Int.ofNat (List.length o_1)) then
         some ((List.set o_1 (Int.toNat o_3) ((List.getD o_1 (Int.toNat o_3) (0, 0, 0, 0, 0, 0)).1, (List.getD o_1 (Int.toNat o_3) (0, 0, 0, 0, 0, 0)).2.1, (List.getD o_1 (Int.toNat o_3) (0, 0, 0, 0, 0, 0)).2.2.1, (List.getD o_1 (Int.toNat o_3) (0, 0, 0, 0, 0, 0)).2.2.2.1, (List.getD o_1 (Int.toNat o_3) (0, 0, 0, 0, 0, 0)).2.2.2.2.1, rate), 0))
        else
         none
       else
        none
noncomputable def contacts_Change_e := entOf (P := Tryz.prog) (A := [.one (.row 34 kGContact), .one (.sc (.int .i64)), .one (.sc (.int .i64))]) (R := [.one (.row 34 kGContact), .one (.sc (.int .i64))]) Tryz.f113 contacts_Change (fun k => ⟨[IndexFunc_of_e k, IndexFunc_ov_e k, IndexFunc_r1_e k, contacts_of_e k, slices_Clone_api_Contact_api_Contact_e k], [], [hkStr Tryz.prog]⟩) [] Tryz.func113 (by kernel_rfl) (by kernel_rfl) trivial (fun k x => by kernel_rfl) fun _ _ => by kernel_rfl
noncomputable def DeleteFunc_of_c : Code := Tryz.f173.body.getD .skip
def DeleteFunc_of_L0 : Nat → ((List GContact) × Int × Int × Int) → Option (((List GContact) × Int) ⊕ (List GContact))
  | 0, _ => none
  | k + 1, (s, del, i, j) =>
  bif decide (j < Int.ofNat (List.length s)) then
  bif decide (0 ≤ j) then
   bif decide (j < Int.ofNat (List.length s)) then
    (contacts_of_1 k (List.getD s (Int.toNat j) (0, 0, 0, 0, 0, 0), del)).bind fun o_4 =>
     bif o_4 then
      DeleteFunc_of_L0 k (s, del, i, w64 (j + 1))
     else
      bif decide (0 ≤ i) then
       bif decide (i < Int.ofNat (List.length s)) then
        DeleteFunc_of_L0 k (List.set s (Int.toNat i) (List.getD s (Int.toNat j) (0, 0, 0, 0, 0, 0)), del, w64 (i + 1), w64 (j + 1))
       else
        none
      else
       none
   else
    none
  else
   none
 else
  some (Sum.inl (s, i))
def DeleteFunc_of (k : Nat) : List GContact → Int → Option (List GContact) := fun s (del) =>
  (IndexFunc_of k (s, del)).bind fun o_1 =>
  bif decide (o_1 = -1) then
   some (s)
  else
   (DeleteFunc_of_L0 k (s, del, o_1, w64 (o_1 + 1))).bind fun o_3 =>
    match o_3 with
    | .inl o_4 =>
     bif decide (0 ≤ o_4.2) then
      bif decide (o_4.2 ≤ Int.ofNat (List.length o_4.1)) then
       bif decide (0 ≤ o_4.2) then
        bif decide (o_4.2 ≤ Int.ofNat (List.length (clearL o_4.1 (Int.toNat o_4.2) (0, 0, 0, 0, 0, 0)))) then
         some (List.take (Int.toNat o_4.2) (clearL o_4.1 (Int.toNat o_4.2) (0, 0, 0, 0, 0, 0)))
        else
         none
       else
        none
      else
       none
     else
      none
    | .inr o_4 =>
     some (o_4)
noncomputable def DeleteFunc_of_X : Cx Tryz.prog [.one (.row 34 kGContact)] := ⟨fun k => ⟨[IndexFunc_of_e k, IndexFunc_ov_e k, IndexFunc_r1_e k, contacts_of_1_e k], [], [hkStr Tryz.prog]⟩, Tryz.f173.ntmps, Tryz.f173.results, [some ⟨0, [(0, .one (.own 34 kGContact)), (1, .fnp 101 [[.int .i64]]), (5, .one (.sc (.int .i64))), (6, .one (.sc (.int .i64)))], [(0, .one (.own 34 kGContact)), (5, .one (.sc (.int .i64)))], DeleteFunc_of_L0⟩]⟩
theorem DeleteFunc_of_L0_eq (k : Nat) (x : (List GContact) × Int × Int × Int) : DeleteFunc_of_L0 (k + 1) x = roundF DeleteFunc_of_X k ⟨0, [(0, .one (.own 34 kGContact)), (1, .fnp 101 [[.int .i64]]), (5, .one (.sc (.int .i64))), (6, .one (.sc (.int .i64)))], [(0, .one (.own 34 kGContact)), (5, .one (.sc (.int .i64)))], DeleteFunc_of_L0⟩ 0 (lp DeleteFunc_of_c 0) x := by kernel_rfl
theorem DeleteFunc_of_eq (k : Nat) (l : List GContact) (x : Int) : DeleteFunc_of k l x = runM (T := 34) (s := kGContact) DeleteFunc_of_X k DeleteFunc_of_c [.one (.fnc 101 [[.int .i64]])] l x := by kernel_rfl
noncomputable def DeleteFunc_of_m (k : Nat) : EntM Tryz.prog := ⟨173, 34, kGContact, [.one (.fnc 101 [[.int .i64]])], false, DeleteFunc_of k, mut_of (X := DeleteFunc_of_X) (k := k) (c := DeleteFunc_of_c) (by kernel_rfl) Tryz.func173 (by kernel_rfl) (by kernel_rfl) (by kernel_rfl) (LoopEqs.all (show LoopEqs DeleteFunc_of_X DeleteFunc_of_c DeleteFunc_of_X.L 0 from ⟨⟨fun _ => rfl, fun k x => DeleteFunc_of_L0_eq k x⟩, trivial⟩)) (fun l x => DeleteFunc_of_eq k l x), fun _ _ => by kernel_rfl⟩
def contacts_Delete (k : Nat) : ((List GContact) × Int) → Option ((List GContact) × Int) := fun (l, id) =>
  (slices_Clone_api_Contact_api_Contact k l).bind fun o_1 =>
  (contacts_of k id).bind fun o_2 =>
   (DeleteFunc_of k o_1 o_2).bind fun o_3 =>
    bif decide (Int.ofNat (List.length o_3) = Int.ofNat (List.length l)) then
     some ((o_3, 6))
    else
     some ((o_3, 0))
noncomputable def contacts_Delete_e := entOf (P := Tryz.prog) (A := [.one (.row 34 kGContact), .one (.sc (.int .i64))]) (R := [.one (.row 34 kGContact), .one (.sc (.int .i64))]) Tryz.f112 contacts_Delete (fun k => ⟨[contacts_of_e k, slices_Clone_api_Contact_api_Contact_e k], [DeleteFunc_of_m k], [hkStr Tryz.prog]⟩) [] Tryz.func112 (by kernel_rfl) (by kernel_rfl) trivial (fun k x => by kernel_rfl) fun _ _ => by kernel_rfl
def slices_Sort (_k : Nat) : List Int → Unit → Option (List Int) := sortF
noncomputable def slices_Sort_m (k : Nat) : EntM Tryz.prog := ⟨181, 3, [.int .i64], [], true, slices_Sort k, sort_mut Tryz.slices_Sort_int Tryz.slices_Sort_int_none, fun _ _ => by kernel_rfl⟩
def contacts_Expire_L0 : Nat → (Int × (List GContact) × (List Int) × (List GContact) × Int × Int) → Option (((List GContact) × (List Int)) ⊕ ((List GContact) × (List Int)))
  | 0, _ => none
  | k + 1, (now, left, gone, t8, t9, t10) =>
  bif decide (t10 < t9) then
  bif decide (0 ≤ t10) then
   bif decide (t10 < Int.ofNat (List.length t8)) then
    bif decide (now < (List.getD t8 (Int.toNat t10) (0, 0, 0, 0, 0, 0)).2.2.2.2.1) then
     bif decide ((List.length left + List.length [List.getD t8 (Int.toNat t10) (0, 0, 0, 0, 0, 0)]) * 48 ≤ 140737488355328) then
      contacts_Expire_L0 k (now, left ++ [List.getD t8 (Int.toNat t10) (0, 0, 0, 0, 0, 0)], gone, t8, t9, w64 (t10 + 1))
     else
      none
    else
     bif decide ((List.length gone + List.length [(List.getD t8 (Int.toNat t10) (0, 0, 0, 0, 0, 0)).1]) * 8 ≤ 140737488355328) then
      contacts_Expire_L0 k (now, left, gone ++ [(List.getD t8 (Int.toNat t10) (0, 0, 0, 0, 0, 0)).1], t8, t9, w64 (t10 + 1))
     else
      none
   else
    none
  else
   none
 else
  some (Sum.inl (left, gone))
def contacts_Expire (k : Nat) : ((List GContact) × Int) → Option ((List GContact) × (List Int)) := fun (l, now) =>
  (contacts_Expire_L0 k (now, [], [], l, Int.ofNat (List.length l), 0)).bind fun o_1 =>
  match o_1 with
  | .inl o_2 =>
   (slices_Sort k o_2.2 ()).bind fun o_3 =>
    some ((o_2.1, o_3))
  | .inr o_2 =>
   some (o_2)
noncomputable def contacts_Expire_e := entOf (P := Tryz.prog) (A := [.one (.row 34 kGContact), .one (.sc (.int .i64))]) (R := [.one (.row 34 kGContact), .one (.row 3 [.int .i64])]) Tryz.f126 contacts_Expire (fun k => ⟨[], [slices_Sort_m k], [hkStr Tryz.prog]⟩) [some ⟨0, [(1, .one (.sc (.int .i64))), (4, .one (.own 34 kGContact)), (5, .one (.own 3 [.int .i64])), (8, .one (.ro kGContact)), (9, .one (.sc (.int .i64))), (10, .one (.sc (.int .i64)))], [(4, .one (.own 34 kGContact)), (5, .one (.own 3 [.int .i64]))], contacts_Expire_L0⟩] Tryz.func126 (by kernel_rfl) (by kernel_rfl) ⟨⟨fun _ => rfl, fun k x => by kernel_rfl⟩, trivial⟩ (fun k x => by kernel_rfl) fun _ _ => by kernel_rfl
def check_Range (k : Nat) : GRange → Option (Bool) := fun (r) =>
  (check_way k (r.1, r.2.1)).bind fun o_1 =>
  bif o_1 then
   (check_span k (r.2.2.1, r.2.2.2.1)).bind fun o_3 =>
    bif o_3 then
     (num_In k (r.2.2.2.2, 0, 2147483647)).bind fun o_5 =>
      bif o_5 then
       some (true)
      else
       some (false)
    else
     some (false)
  else
   some (false)
noncomputable def check_Range_e := entOf (P := Tryz.prog) (A := [.agg lGRange]) (R := [.one (.sc (.bool))]) Tryz.f131 check_Range (fun k => ⟨[check_way_e k, check_span_e k, num_In_e k], [], [hkStr Tryz.prog]⟩) [] Tryz.func131 (by kernel_rfl) (by kernel_rfl) trivial (fun k x => by kernel_rfl) fun _ _ => by kernel_rfl
def direct_may (k : Nat) : GDirective → Option (Bool) := fun (d) =>
  bif !decide (d.1 = 1) then
  bif decide (d.1 = 3) then
   bif decide (d.2.1 = 1) then
    (check_Contact k (d.2.2.1, 1, 2, 0, 1, d.2.2.2.2.2.2.2.1)).bind fun o_4 =>
     bif o_4 then
      some (true)
     else
      some (false)
   else
    (check_Range k (d.2.2.2.2.2.2.2.2.1, d.2.2.2.2.2.2.2.2.2.1, d.2.2.2.2.2.2.2.2.2.2.1, 2147483647, d.2.2.2.2.2.2.2.2.2.2.2.2)).bind fun o_4 =>
     bif o_4 then
      some (true)
     else
      some (false)
  else
   bif decide (d.2.1 = 1) then
    (check_Contact k (d.2.2.1, 1, 2, 0, 1, mx d.2.2.2.2.2.2.2.1 1)).bind fun o_4 =>
     bif o_4 then
      some (true)
     else
      some (false)
   else
    (check_Range k (d.2.2.2.2.2.2.2.2.1, d.2.2.2.2.2.2.2.2.2.1, d.2.2.2.2.2.2.2.2.2.2.1, 2147483647, d.2.2.2.2.2.2.2.2.2.2.2.2)).bind fun o_4 =>
     bif o_4 then
      some (true)
     else
      some (false)
 else
  bif decide (d.2.1 = 1) then
   (check_Contact k (d.2.2.1, d.2.2.2.1, d.2.2.2.2.1, d.2.2.2.2.2.1, d.2.2.2.2.2.2.1, d.2.2.2.2.2.2.2.1)).bind fun o_3 =>
    bif o_3 then
     some (true)
    else
     some (false)
  else
   (check_Range k d.2.2.2.2.2.2.2.2).bind fun o_3 =>
    bif o_3 then
     some (true)
    else
     some (false)
noncomputable def direct_may_e := entOf (P := Tryz.prog) (A := [.agg lGDirective]) (R := [.one (.sc (.bool))]) Tryz.f169 direct_may (fun k => ⟨[check_Contact_e k, check_Range_e k], [], [hkStr Tryz.prog]⟩) [] Tryz.func169 (by kernel_rfl) (by kernel_rfl) trivial (fun k x => by kernel_rfl) fun _ _ => by kernel_rfl
def direct_Right (k : Nat) : GDirective → Option (Bool) := fun (d) =>
  bif decide (d.1 = 1) && decide (d.2.1 = 1) then
  bif d.1 == d.1 && (d.2.1 == d.2.1 && (d.2.2.1 == d.2.2.1 && (d.2.2.2.1 == d.2.2.2.1 && (d.2.2.2.2.1 == d.2.2.2.2.1 && (d.2.2.2.2.2.1 == d.2.2.2.2.2.1 && (d.2.2.2.2.2.2.1 == d.2.2.2.2.2.2.1 && d.2.2.2.2.2.2.2.1 == d.2.2.2.2.2.2.2.1)))) && (0 == d.2.2.2.2.2.2.2.2.1 && (0 == d.2.2.2.2.2.2.2.2.2.1 && (0 == d.2.2.2.2.2.2.2.2.2.2.1 && (0 == d.2.2.2.2.2.2.2.2.2.2.2.1 && 0 == d.2.2.2.2.2.2.2.2.2.2.2.2)))))) then
   (direct_may k d).bind fun o_3 =>
    bif o_3 then
     some (true)
    else
     some (false)
  else
   some (false)
 else
  bif decide (d.1 = 2) && decide (d.2.1 = 1) then
   bif d.1 == d.1 && (d.2.1 == d.2.1 && (d.2.2.1 == d.2.2.1 && (0 == d.2.2.2.1 && (0 == d.2.2.2.2.1 && (0 == d.2.2.2.2.2.1 && (0 == d.2.2.2.2.2.2.1 && 0 == d.2.2.2.2.2.2.2.1)))) && (0 == d.2.2.2.2.2.2.2.2.1 && (0 == d.2.2.2.2.2.2.2.2.2.1 && (0 == d.2.2.2.2.2.2.2.2.2.2.1 && (0 == d.2.2.2.2.2.2.2.2.2.2.2.1 && 0 == d.2.2.2.2.2.2.2.2.2.2.2.2)))))) then
    (direct_may k d).bind fun o_4 =>
     bif o_4 then
      some (true)
     else
      some (false)
   else
    some (false)
  else
   bif decide (d.1 = 3) && decide (d.2.1 = 1) then
    bif d.1 == d.1 && (d.2.1 == d.2.1 && (d.2.2.1 == d.2.2.1 && (0 == d.2.2.2.1 && (0 == d.2.2.2.2.1 && (0 == d.2.2.2.2.2.1 && (0 == d.2.2.2.2.2.2.1 && d.2.2.2.2.2.2.2.1 == d.2.2.2.2.2.2.2.1)))) && (0 == d.2.2.2.2.2.2.2.2.1 && (0 == d.2.2.2.2.2.2.2.2.2.1 && (0 == d.2.2.2.2.2.2.2.2.2.2.1 && (0 == d.2.2.2.2.2.2.2.2.2.2.2.1 && 0 == d.2.2.2.2.2.2.2.2.2.2.2.2)))))) then
     (direct_may k d).bind fun o_5 =>
      bif o_5 then
       some (true)
      else
       some (false)
    else
     some (false)
   else
    bif decide (d.1 = 1) && decide (d.2.1 = 2) then
     bif d.1 == d.1 && (d.2.1 == d.2.1 && (0 == d.2.2.1 && (0 == d.2.2.2.1 && (0 == d.2.2.2.2.1 && (0 == d.2.2.2.2.2.1 && (0 == d.2.2.2.2.2.2.1 && 0 == d.2.2.2.2.2.2.2.1)))) && (d.2.2.2.2.2.2.2.2.1 == d.2.2.2.2.2.2.2.2.1 && (d.2.2.2.2.2.2.2.2.2.1 == d.2.2.2.2.2.2.2.2.2.1 && (d.2.2.2.2.2.2.2.2.2.2.1 == d.2.2.2.2.2.2.2.2.2.2.1 && (d.2.2.2.2.2.2.2.2.2.2.2.1 == d.2.2.2.2.2.2.2.2.2.2.2.1 && d.2.2.2.2.2.2.2.2.2.2.2.2 == d.2.2.2.2.2.2.2.2.2.2.2.2)))))) then
      (direct_may k d).bind fun o_6 =>
       bif o_6 then
        some (true)
       else
        some (false)
     else
      some (false)
    else
     bif decide (d.1 = 2) && decide (d.2.1 = 2) then
      bif d.1 == d.1 && (d.2.1 == d.2.1 && (0 == d.2.2.1 && (0 == d.2.2.2.1 && (0 == d.2.2.2.2.1 && (0 == d.2.2.2.2.2.1 && (0 == d.2.2.2.2.2.2.1 && 0 == d.2.2.2.2.2.2.2.1)))) && (d.2.2.2.2.2.2.2.2.1 == d.2.2.2.2.2.2.2.2.1 && (d.2.2.2.2.2.2.2.2.2.1 == d.2.2.2.2.2.2.2.2.2.1 && (d.2.2.2.2.2.2.2.2.2.2.1 == d.2.2.2.2.2.2.2.2.2.2.1 && (0 == d.2.2.2.2.2.2.2.2.2.2.2.1 && 0 == d.2.2.2.2.2.2.2.2.2.2.2.2)))))) then
       (direct_may k d).bind fun o_7 =>
        bif o_7 then
         some (true)
        else
         some (false)
      else
       some (false)
     else
      bif decide (d.1 = 3) && decide (d.2.1 = 2) then
       bif d.1 == d.1 && (d.2.1 == d.2.1 && (0 == d.2.2.1 && (0 == d.2.2.2.1 && (0 == d.2.2.2.2.1 && (0 == d.2.2.2.2.2.1 && (0 == d.2.2.2.2.2.2.1 && 0 == d.2.2.2.2.2.2.2.1)))) && (d.2.2.2.2.2.2.2.2.1 == d.2.2.2.2.2.2.2.2.1 && (d.2.2.2.2.2.2.2.2.2.1 == d.2.2.2.2.2.2.2.2.2.1 && (d.2.2.2.2.2.2.2.2.2.2.1 == d.2.2.2.2.2.2.2.2.2.2.1 && (0 == d.2.2.2.2.2.2.2.2.2.2.2.1 && d.2.2.2.2.2.2.2.2.2.2.2.2 == d.2.2.2.2.2.2.2.2.2.2.2.2)))))) then
        (direct_may k d).bind fun o_8 =>
         bif o_8 then
          some (true)
         else
          some (false)
       else
        some (false)
      else
       some (false)
noncomputable def direct_Right_e := entOf (P := Tryz.prog) (A := [.agg lGDirective]) (R := [.one (.sc (.bool))]) Tryz.f109 direct_Right (fun k => ⟨[direct_may_e k], [], [hkMapC fC, hkMap fT, hkClo [fClo1, fClo2, fClo3, fClo4, fClo5, fClo6], hkRow Tryz.prog, hkStr Tryz.prog]⟩) [none] Tryz.func109 (by kernel_rfl) (by kernel_rfl) trivial (fun k x => by kernel_rfl) fun _ _ => by kernel_rfl
def ranges_Compare (k : Nat) : (GRange × GRange) → Option (Int) := fun (a, b) =>
  (cmp_Compare_int k (a.1, b.1)).bind fun o_1 =>
  (cmp_Compare_int k (a.2.1, b.2.1)).bind fun o_2 =>
   (cmp_Compare_int k (a.2.2.1, b.2.2.1)).bind fun o_3 =>
    (cmp_Or_int k [o_1, o_2, o_3]).bind fun o_4 =>
     some (o_4)
noncomputable def ranges_Compare_e := entOf (P := Tryz.prog) (A := [.agg lGRange, .agg lGRange]) (R := [.one (.sc (.int .i64))]) Tryz.f132 ranges_Compare (fun k => ⟨[cmp_Compare_int_e k, cmp_Or_int_e k], [], [hkStr Tryz.prog]⟩) [] Tryz.func132 (by kernel_rfl) (by kernel_rfl) trivial (fun k x => by kernel_rfl) fun _ _ => by kernel_rfl
def ranges_overlap (k : Nat) : (GRange × GRange) → Option (Bool) := fun (a, b) =>
  bif decide (a.1 = b.1) then
  bif decide (a.2.1 = b.2.1) then
   bif decide (mx a.2.2.1 b.2.2.1 < mn a.2.2.2.1 b.2.2.2.1) then
    some (true)
   else
    some (false)
  else
   some (false)
 else
  some (false)
noncomputable def ranges_overlap_e := entOf (P := Tryz.prog) (A := [.agg lGRange, .agg lGRange]) (R := [.one (.sc (.bool))]) Tryz.f133 ranges_overlap (fun k => ⟨[], [], [hkStr Tryz.prog]⟩) [] Tryz.func133 (by kernel_rfl) (by kernel_rfl) trivial (fun k x => by kernel_rfl) fun _ _ => by kernel_rfl
noncomputable def slices_Clone_api_Range_api_Range_c : Code := Tryz.f158.body.getD .skip
def slices_Clone_api_Range_api_Range (k : Nat) : (List GRange) → Option (List GRange) := fun s =>
  bif decide ((0 + List.length s) * 40 ≤ 140737488355328) then
  some (s)
 else
  none
noncomputable def slices_Clone_api_Range_api_Range_X : Cx Tryz.prog [.one (.row 36 kGRange)] := ⟨fun _ => ⟨[], [], []⟩, Tryz.f158.ntmps, Tryz.f158.results, []⟩
theorem slices_Clone_api_Range_api_Range_eq (k : Nat) (x : List GRange) : slices_Clone_api_Range_api_Range k x = runAt slices_Clone_api_Range_api_Range_X k (restC slices_Clone_api_Range_api_Range_c) (cloneS kGRange x) := by kernel_rfl
noncomputable def slices_Clone_api_Range_api_Range_e (k : Nat) : Ent Tryz.prog := ⟨158, [.one (.row 36 kGRange)], [.one (.row 36 kGRange)], slices_Clone_api_Range_api_Range k, clone_calls (sT := 23) (bT := 4) (e := 36) (rest := restC slices_Clone_api_Range_api_Range_c) (X := slices_Clone_api_Range_api_Range_X) (k := k) Tryz.func158 (by kernel_rfl) (by kernel_rfl) (by kernel_rfl) (by kernel_rfl) rfl (by kernel_rfl) (by kernel_rfl) (by kernel_rfl) (by kernel_rfl) (by kernel_rfl) (fun l => slices_Clone_api_Range_api_Range_eq k l), fun _ _ => by kernel_rfl⟩
def slices_Equal_api_Range_api_Range_L0 : Nat → ((List GRange) × (List GRange) × Int × Int) → Option ((Unit) ⊕ (Bool))
  | 0, _ => none
  | k + 1, (s1, s2, t12, t13) =>
  bif decide (t13 < t12) then
  bif decide (0 ≤ t13) then
   bif decide (t13 < Int.ofNat (List.length s1)) then
    bif decide (0 ≤ t13) then
     bif decide (t13 < Int.ofNat (List.length s2)) then
      bif !((List.getD s1 (Int.toNat t13) (0, 0, 0, 0, 0)).1 == (List.getD s2 (Int.toNat t13) (0, 0, 0, 0, 0)).1 && ((List.getD s1 (Int.toNat t13) (0, 0, 0, 0, 0)).2.1 == (List.getD s2 (Int.toNat t13) (0, 0, 0, 0, 0)).2.1 && ((List.getD s1 (Int.toNat t13) (0, 0, 0, 0, 0)).2.2.1 == (List.getD s2 (Int.toNat t13) (0, 0, 0, 0, 0)).2.2.1 && ((List.getD s1 (Int.toNat t13) (0, 0, 0, 0, 0)).2.2.2.1 == (List.getD s2 (Int.toNat t13) (0, 0, 0, 0, 0)).2.2.2.1 && (List.getD s1 (Int.toNat t13) (0, 0, 0, 0, 0)).2.2.2.2 == (List.getD s2 (Int.toNat t13) (0, 0, 0, 0, 0)).2.2.2.2)))) then
       some (Sum.inr false)
      else
       slices_Equal_api_Range_api_Range_L0 k (s1, s2, t12, w64 (t13 + 1))
     else
      none
    else
     none
   else
    none
  else
   none
 else
  some (Sum.inl ())
def slices_Equal_api_Range_api_Range (k : Nat) : ((List GRange) × (List GRange)) → Option (Bool) := fun (s1, s2) =>
  bif !decide (Int.ofNat (List.length s1) = Int.ofNat (List.length s2)) then
  some (false)
 else
  (slices_Equal_api_Range_api_Range_L0 k (s1, s2, Int.ofNat (List.length s1), 0)).bind fun o_2 =>
   match o_2 with
   | .inl o_3 =>
    some (true)
   | .inr o_3 =>
    some (o_3)
noncomputable def slices_Equal_api_Range_api_Range_e := entOf (P := Tryz.prog) (A := [.one (.row 36 kGRange), .one (.row 36 kGRange)]) (R := [.one (.sc (.bool))]) Tryz.f102 slices_Equal_api_Range_api_Range (fun k => ⟨[], [], [hkStr Tryz.prog]⟩) [some ⟨0, [(0, .one (.ro kGRange)), (1, .one (.ro kGRange)), (12, .one (.sc (.int .i64))), (13, .one (.sc (.int .i64)))], [], slices_Equal_api_Range_api_Range_L0⟩] Tryz.func102 (by kernel_rfl) (by kernel_rfl) ⟨⟨fun _ => rfl, fun k x => by kernel_rfl⟩, trivial⟩ (fun k x => by kernel_rfl) fun _ _ => by kernel_rfl
def ranges_Same (k : Nat) : ((List GRange) × (List GRange)) → Option (Bool) := fun (a, b) =>
  (slices_Equal_api_Range_api_Range k (a, b)).bind fun o_1 =>
  bif o_1 then
   some (true)
  else
   some (false)
noncomputable def ranges_Same_e := entOf (P := Tryz.prog) (A := [.one (.row 36 kGRange), .one (.row 36 kGRange)]) (R := [.one (.sc (.bool))]) Tryz.f63 ranges_Same (fun k => ⟨[slices_Equal_api_Range_api_Range_e k], [], [hkStr Tryz.prog]⟩) [] Tryz.func63 (by kernel_rfl) (by kernel_rfl) trivial (fun k x => by kernel_rfl) fun _ _ => by kernel_rfl
def ranges_Add_1 (k : Nat) : (GRange × GRange) → Option (Bool) := fun (x0, t1) =>
  (ranges_overlap k (x0, t1)).bind fun o_1 =>
  bif o_1 then
   some (true)
  else
   some (false)
noncomputable def ranges_Add_1_e := entOf (P := Tryz.prog) (A := [.agg lGRange, .one (.ptr [.int .i64, .int .i64, .int .i64, .int .i64, .int .i64])]) (R := [.one (.sc (.bool))]) Tryz.f174 ranges_Add_1 (fun k => ⟨[ranges_overlap_e k], [], [hkStr Tryz.prog]⟩) [] Tryz.func174 (by kernel_rfl) (by kernel_rfl) trivial (fun k x => by kernel_rfl) fun _ _ => by kernel_rfl
def ranges_Expire_1 (k : Nat) : (GRange × Int) → Option (Bool) := fun (r, t1) =>
  bif decide (r.2.2.2.1 ≤ t1) then
  some (true)
 else
  some (false)
noncomputable def ranges_Expire_1_e := entOf (P := Tryz.prog) (A := [.agg lGRange, .one (.ptr [.int .i64])]) (R := [.one (.sc (.bool))]) Tryz.f183 ranges_Expire_1 (fun k => ⟨[], [], [hkStr Tryz.prog]⟩) [] Tryz.func183 (by kernel_rfl) (by kernel_rfl) trivial (fun k x => by kernel_rfl) fun _ _ => by kernel_rfl
def IndexFuncR_r2_L0 : Nat → ((List GRange) × GPlan × Int × Int) → Option ((Unit) ⊕ (Int))
  | 0, _ => none
  | k + 1, (s, f, t7, t8) =>
  bif decide (t8 < t7) then
  bif decide (0 ≤ t8) then
   bif decide (t8 < Int.ofNat (List.length s)) then
    (plan_Right_2 k (List.getD s (Int.toNat t8) (0, 0, 0, 0, 0), f)).bind fun o_4 =>
     bif o_4 then
      some (Sum.inr t8)
     else
      IndexFuncR_r2_L0 k (s, f, t7, w64 (t8 + 1))
   else
    none
  else
   none
 else
  some (Sum.inl ())
def IndexFuncR_r2 (k : Nat) : ((List GRange) × GPlan) → Option (Int) := fun (s, f) =>
  (IndexFuncR_r2_L0 k (s, f, Int.ofNat (List.length s), 0)).bind fun o_1 =>
  match o_1 with
  | .inl o_2 =>
   some (-1)
  | .inr o_2 =>
   some (o_2)
noncomputable def IndexFuncR_r2_e := entOf (P := Tryz.prog) (A := [.one (.row 36 kGRange), .one (.fnc 76 [[.row kGContact, .row kGRange, .int .i64, .int .i64]])]) (R := [.one (.sc (.int .i64))]) Tryz.f128 IndexFuncR_r2 (fun k => ⟨[plan_Right_2_e k], [], [hkStr Tryz.prog]⟩) [some ⟨0, [(0, .one (.ro kGRange)), (1, .fnp 76 [[.row kGContact, .row kGRange, .int .i64, .int .i64]]), (7, .one (.sc (.int .i64))), (8, .one (.sc (.int .i64)))], [], IndexFuncR_r2_L0⟩] Tryz.func128 (by kernel_rfl) (by kernel_rfl) ⟨⟨fun _ => rfl, fun k x => by kernel_rfl⟩, trivial⟩ (fun k x => by kernel_rfl) fun _ _ => by kernel_rfl
def IndexFuncR_ov_L0 : Nat → ((List GRange) × GRange × Int × Int) → Option ((Unit) ⊕ (Int))
  | 0, _ => none
  | k + 1, (s, f, t7, t8) =>
  bif decide (t8 < t7) then
  bif decide (0 ≤ t8) then
   bif decide (t8 < Int.ofNat (List.length s)) then
    (ranges_Add_1 k (List.getD s (Int.toNat t8) (0, 0, 0, 0, 0), f)).bind fun o_4 =>
     bif o_4 then
      some (Sum.inr t8)
     else
      IndexFuncR_ov_L0 k (s, f, t7, w64 (t8 + 1))
   else
    none
  else
   none
 else
  some (Sum.inl ())
def IndexFuncR_ov (k : Nat) : ((List GRange) × GRange) → Option (Int) := fun (s, f) =>
  (IndexFuncR_ov_L0 k (s, f, Int.ofNat (List.length s), 0)).bind fun o_1 =>
  match o_1 with
  | .inl o_2 =>
   some (-1)
  | .inr o_2 =>
   some (o_2)
noncomputable def IndexFuncR_ov_e := entOf (P := Tryz.prog) (A := [.one (.row 36 kGRange), .one (.fnc 174 [[.int .i64, .int .i64, .int .i64, .int .i64, .int .i64]])]) (R := [.one (.sc (.int .i64))]) Tryz.f128 IndexFuncR_ov (fun k => ⟨[ranges_Add_1_e k], [], [hkStr Tryz.prog]⟩) [some ⟨0, [(0, .one (.ro kGRange)), (1, .fnp 174 [[.int .i64, .int .i64, .int .i64, .int .i64, .int .i64]]), (7, .one (.sc (.int .i64))), (8, .one (.sc (.int .i64)))], [], IndexFuncR_ov_L0⟩] Tryz.func128 (by kernel_rfl) (by kernel_rfl) ⟨⟨fun _ => rfl, fun k x => by kernel_rfl⟩, trivial⟩ (fun k x => by kernel_rfl) fun _ _ => by kernel_rfl
def IndexFuncR_ex_L0 : Nat → ((List GRange) × Int × Int × Int) → Option ((Unit) ⊕ (Int))
  | 0, _ => none
  | k + 1, (s, f, t7, t8) =>
  bif decide (t8 < t7) then
  bif decide (0 ≤ t8) then
   bif decide (t8 < Int.ofNat (List.length s)) then
    (ranges_Expire_1 k (List.getD s (Int.toNat t8) (0, 0, 0, 0, 0), f)).bind fun o_4 =>
     bif o_4 then
      some (Sum.inr t8)
     else
      IndexFuncR_ex_L0 k (s, f, t7, w64 (t8 + 1))
   else
    none
  else
   none
 else
  some (Sum.inl ())
def IndexFuncR_ex (k : Nat) : ((List GRange) × Int) → Option (Int) := fun (s, f) =>
  (IndexFuncR_ex_L0 k (s, f, Int.ofNat (List.length s), 0)).bind fun o_1 =>
  match o_1 with
  | .inl o_2 =>
   some (-1)
  | .inr o_2 =>
   some (o_2)
noncomputable def IndexFuncR_ex_e := entOf (P := Tryz.prog) (A := [.one (.row 36 kGRange), .one (.fnc 183 [[.int .i64]])]) (R := [.one (.sc (.int .i64))]) Tryz.f128 IndexFuncR_ex (fun k => ⟨[ranges_Expire_1_e k], [], [hkStr Tryz.prog]⟩) [some ⟨0, [(0, .one (.ro kGRange)), (1, .fnp 183 [[.int .i64]]), (7, .one (.sc (.int .i64))), (8, .one (.sc (.int .i64)))], [], IndexFuncR_ex_L0⟩] Tryz.func128 (by kernel_rfl) (by kernel_rfl) ⟨⟨fun _ => rfl, fun k x => by kernel_rfl⟩, trivial⟩ (fun k x => by kernel_rfl) fun _ _ => by kernel_rfl
def ContainsFuncR_r2 (k : Nat) : ((List GRange) × GPlan) → Option (Bool) := fun (s, f) =>
  (IndexFuncR_r2 k (s, f)).bind fun o_1 =>
  bif decide (0 ≤ o_1) then
   some (true)
  else
   some (false)
noncomputable def ContainsFuncR_r2_e := entOf (P := Tryz.prog) (A := [.one (.row 36 kGRange), .one (.fnc 76 [[.row kGContact, .row kGRange, .int .i64, .int .i64]])]) (R := [.one (.sc (.bool))]) Tryz.f78 ContainsFuncR_r2 (fun k => ⟨[plan_Right_2_e k, IndexFuncR_r2_e k, IndexFuncR_ov_e k, IndexFuncR_ex_e k], [], [hkStr Tryz.prog]⟩) [] Tryz.func78 (by kernel_rfl) (by kernel_rfl) trivial (fun k x => by kernel_rfl) fun _ _ => by kernel_rfl
def ContainsFuncR_ov (k : Nat) : ((List GRange) × GRange) → Option (Bool) := fun (s, f) =>
  (IndexFuncR_ov k (s, f)).bind fun o_1 =>
  bif decide (0 ≤ o_1) then
   some (true)
  else
   some (false)
noncomputable def ContainsFuncR_ov_e := entOf (P := Tryz.prog) (A := [.one (.row 36 kGRange), .one (.fnc 174 [[.int .i64, .int .i64, .int .i64, .int .i64, .int .i64]])]) (R := [.one (.sc (.bool))]) Tryz.f78 ContainsFuncR_ov (fun k => ⟨[IndexFuncR_r2_e k, IndexFuncR_ov_e k, IndexFuncR_ex_e k, ranges_Add_1_e k], [], [hkStr Tryz.prog]⟩) [] Tryz.func78 (by kernel_rfl) (by kernel_rfl) trivial (fun k x => by kernel_rfl) fun _ _ => by kernel_rfl
def ContainsFuncR_ex (k : Nat) : ((List GRange) × Int) → Option (Bool) := fun (s, f) =>
  (IndexFuncR_ex k (s, f)).bind fun o_1 =>
  bif decide (0 ≤ o_1) then
   some (true)
  else
   some (false)
noncomputable def ContainsFuncR_ex_e := entOf (P := Tryz.prog) (A := [.one (.row 36 kGRange), .one (.fnc 183 [[.int .i64]])]) (R := [.one (.sc (.bool))]) Tryz.f78 ContainsFuncR_ex (fun k => ⟨[IndexFuncR_r2_e k, IndexFuncR_ov_e k, IndexFuncR_ex_e k, ranges_Expire_1_e k], [], [hkStr Tryz.prog]⟩) [] Tryz.func78 (by kernel_rfl) (by kernel_rfl) trivial (fun k x => by kernel_rfl) fun _ _ => by kernel_rfl
noncomputable def DeleteFuncR_ex_c : Code := Tryz.f182.body.getD .skip
def DeleteFuncR_ex_L0 : Nat → ((List GRange) × Int × Int × Int) → Option (((List GRange) × Int) ⊕ (List GRange))
  | 0, _ => none
  | k + 1, (s, del, i, j) =>
  bif decide (j < Int.ofNat (List.length s)) then
  bif decide (0 ≤ j) then
   bif decide (j < Int.ofNat (List.length s)) then
    (ranges_Expire_1 k (List.getD s (Int.toNat j) (0, 0, 0, 0, 0), del)).bind fun o_4 =>
     bif o_4 then
      DeleteFuncR_ex_L0 k (s, del, i, w64 (j + 1))
     else
      bif decide (0 ≤ i) then
       bif decide (i < Int.ofNat (List.length s)) then
        DeleteFuncR_ex_L0 k (List.set s (Int.toNat i) (List.getD s (Int.toNat j) (0, 0, 0, 0, 0)), del, w64 (i + 1), w64 (j + 1))
       else
        none
      else
       none
   else
    none
  else
   none
 else
  some (Sum.inl (s, i))
def DeleteFuncR_ex (k : Nat) : List GRange → Int → Option (List GRange) := fun s (del) =>
  (IndexFuncR_ex k (s, del)).bind fun o_1 =>
  bif decide (o_1 = -1) then
   some (s)
  else
   (DeleteFuncR_ex_L0 k (s, del, o_1, w64 (o_1 + 1))).bind fun o_3 =>
    match o_3 with
    | .inl o_4 =>
     bif decide (0 ≤ o_4.2) then
      bif decide (o_4.2 ≤ Int.ofNat (List.length o_4.1)) then
       bif decide (0 ≤ o_4.2) then
        bif decide (o_4.2 ≤ Int.ofNat (List.length (clearL o_4.1 (Int.toNat o_4.2) (0, 0, 0, 0, 0)))) then
         some (List.take (Int.toNat o_4.2) (clearL o_4.1 (Int.toNat o_4.2) (0, 0, 0, 0, 0)))
        else
         none
       else
        none
      else
       none
     else
      none
    | .inr o_4 =>
     some (o_4)
noncomputable def DeleteFuncR_ex_X : Cx Tryz.prog [.one (.row 36 kGRange)] := ⟨fun k => ⟨[IndexFuncR_r2_e k, IndexFuncR_ov_e k, IndexFuncR_ex_e k, ranges_Expire_1_e k], [], [hkStr Tryz.prog]⟩, Tryz.f182.ntmps, Tryz.f182.results, [some ⟨0, [(0, .one (.own 36 kGRange)), (1, .fnp 183 [[.int .i64]]), (5, .one (.sc (.int .i64))), (6, .one (.sc (.int .i64)))], [(0, .one (.own 36 kGRange)), (5, .one (.sc (.int .i64)))], DeleteFuncR_ex_L0⟩]⟩
theorem DeleteFuncR_ex_L0_eq (k : Nat) (x : (List GRange) × Int × Int × Int) : DeleteFuncR_ex_L0 (k + 1) x = roundF DeleteFuncR_ex_X k ⟨0, [(0, .one (.own 36 kGRange)), (1, .fnp 183 [[.int .i64]]), (5, .one (.sc (.int .i64))), (6, .one (.sc (.int .i64)))], [(0, .one (.own 36 kGRange)), (5, .one (.sc (.int .i64)))], DeleteFuncR_ex_L0⟩ 0 (lp DeleteFuncR_ex_c 0) x := by kernel_rfl
theorem DeleteFuncR_ex_eq (k : Nat) (l : List GRange) (x : Int) : DeleteFuncR_ex k l x = runM (T := 36) (s := kGRange) DeleteFuncR_ex_X k DeleteFuncR_ex_c [.one (.fnc 183 [[.int .i64]])] l x := by kernel_rfl
noncomputable def DeleteFuncR_ex_m (k : Nat) : EntM Tryz.prog := ⟨182, 36, kGRange, [.one (.fnc 183 [[.int .i64]])], false, DeleteFuncR_ex k, mut_of (X := DeleteFuncR_ex_X) (k := k) (c := DeleteFuncR_ex_c) (by kernel_rfl) Tryz.func182 (by kernel_rfl) (by kernel_rfl) (by kernel_rfl) (LoopEqs.all (show LoopEqs DeleteFuncR_ex_X DeleteFuncR_ex_c DeleteFuncR_ex_X.L 0 from ⟨⟨fun _ => rfl, fun k x => DeleteFuncR_ex_L0_eq k x⟩, trivial⟩)) (fun l x => DeleteFuncR_ex_eq k l x), fun _ _ => by kernel_rfl⟩
def BinarySearchFunc_R_L0 : Nat → ((List GRange) × Unit × GRange × Int × Int × Int) → Option (((List GRange) × Unit × GRange × Int × Int) ⊕ (Int × Bool))
  | 0, _ => none
  | k + 1, (x0, cmp, target, n, i, j) =>
  bif decide (i < j) then
  bif decide (0 ≤ w64 (Int.fdiv (IntKind.wrap IntKind.u64 (w64 (i + j))) (2 ^ min (Int.toNat 1) 64))) then
   bif decide (w64 (Int.fdiv (IntKind.wrap IntKind.u64 (w64 (i + j))) (2 ^ min (Int.toNat 1) 64)) < Int.ofNat (List.length x0)) then
    (ranges_Compare k (List.getD x0 (Int.toNat (w64 (Int.fdiv (IntKind.wrap IntKind.u64 (w64 (i + j))) (2 ^ min (Int.toNat 1) 64)))) (0, 0, 0, 0, 0), target)).bind fun o_4 =>
     bif decide (o_4 < 0) then
      BinarySearchFunc_R_L0 k (x0, (), target, n, w64 (w64 (Int.fdiv (IntKind.wrap IntKind.u64 (w64 (i + j))) (2 ^ min (Int.toNat 1) 64)) + 1), j)
     else
      BinarySearchFunc_R_L0 k (x0, (), target, n, i, w64 (Int.fdiv (IntKind.wrap IntKind.u64 (w64 (i + j))) (2 ^ min (Int.toNat 1) 64)))
   else
    none
  else
   none
 else
  some (Sum.inl (x0, (), target, n, i))
def BinarySearchFunc_R (k : Nat) : ((List GRange) × GRange × Unit) → Option (Int × Bool) := fun (x0, target, cmp) =>
  (BinarySearchFunc_R_L0 k (x0, (), target, Int.ofNat (List.length x0), 0, Int.ofNat (List.length x0))).bind fun o_1 =>
  match o_1 with
  | .inl o_2 =>
   bif decide (o_2.2.2.2.2 < o_2.2.2.2.1) then
    bif decide (0 ≤ o_2.2.2.2.2) then
     bif decide (o_2.2.2.2.2 < Int.ofNat (List.length o_2.1)) then
      (ranges_Compare k (List.getD o_2.1 (Int.toNat o_2.2.2.2.2) (0, 0, 0, 0, 0), o_2.2.2.1)).bind fun o_6 =>
       bif decide (o_6 = 0) then
        some ((o_2.2.2.2.2, true))
       else
        some ((o_2.2.2.2.2, false))
     else
      none
    else
     none
   else
    some ((o_2.2.2.2.2, false))
  | .inr o_2 =>
   some (o_2)
noncomputable def BinarySearchFunc_R_e := entOf (P := Tryz.prog) (A := [.one (.row 36 kGRange), .agg lGRange, .one (.fnc 132 [])]) (R := [.one (.sc (.int .i64)), .one (.sc (.bool))]) Tryz.f175 BinarySearchFunc_R (fun k => ⟨[ranges_Compare_e k], [], [hkStr Tryz.prog]⟩) [some ⟨0, [(0, .one (.ro kGRange)), (2, .fnp 132 []), (4, .box 36 trGRange), (8, .one (.sc (.int .i64))), (9, .one (.sc (.int .i64))), (10, .one (.sc (.int .i64)))], [(0, .one (.ro kGRange)), (2, .fnp 132 []), (4, .box 36 trGRange), (8, .one (.sc (.int .i64))), (9, .one (.sc (.int .i64)))], BinarySearchFunc_R_L0⟩] Tryz.func175 (by kernel_rfl) (by kernel_rfl) ⟨⟨fun _ => rfl, fun k x => by kernel_rfl⟩, trivial⟩ (fun k x => by kernel_rfl) fun _ _ => by kernel_rfl
def slices_InsertR (_k : Nat) : List GRange → (Int × (List GRange)) → Option (List GRange) := insF 40
noncomputable def slices_InsertR_m (k : Nat) : EntM Tryz.prog := ⟨176, 36, kGRange, [.one (.sc (.int .i64)), .one (.row 36 kGRange)], false, slices_InsertR k, ins36_mut, fun _ _ => by kernel_rfl⟩
def slices_DeleteR (_k : Nat) : List GRange → (Int × Int) → Option (List GRange) := delF
noncomputable def slices_DeleteR_m (k : Nat) : EntM Tryz.prog := ⟨177, 36, kGRange, [.one (.sc (.int .i64)), .one (.sc (.int .i64))], false, slices_DeleteR k, del36_mut, fun _ _ => by kernel_rfl⟩
def slices_Insert (_k : Nat) : List GContact → (Int × (List GContact)) → Option (List GContact) := insF 48
noncomputable def slices_Insert_m (k : Nat) : EntM Tryz.prog := ⟨172, 34, kGContact, [.one (.sc (.int .i64)), .one (.row 34 kGContact)], false, slices_Insert k, ins34_mut, fun _ _ => by kernel_rfl⟩
def contacts_Add (k : Nat) : ((List GContact) × GContact) → Option ((List GContact) × Int) := fun (l, c1) =>
  (slices_Clone_api_Contact_api_Contact k l).bind fun o_1 =>
  (check_Contact k c1).bind fun o_2 =>
   bif o_2 then
    bif decide (4096 ≤ Int.ofNat (List.length o_1)) then
     some ((o_1, 3))
    else
     (contacts_of k c1.1).bind fun o_5 =>
      (ContainsFunc_of k (o_1, o_5)).bind fun o_6 =>
       bif o_6 then
        some ((o_1, 4))
       else
        (ContainsFunc_ov k (o_1, c1)).bind fun o_8 =>
         bif o_8 then
          some ((o_1, 5))
         else
          (BinarySearchFunc_C k (o_1, c1, ())).bind fun o_10 =>
           bif o_10.2 then
            (slices_Insert k o_1 (o_10.1, [c1])).bind fun o_12 =>
             some ((o_12, 0))
           else
            (slices_Insert k o_1 (o_10.1, [c1])).bind fun o_12 =>
             some ((o_12, 0))
   else
    some ((o_1, 1))
noncomputable def contacts_Add_e := entOf (P := Tryz.prog) (A := [.one (.row 34 kGContact), .agg lGContact]) (R := [.one (.row 34 kGContact), .one (.sc (.int .i64))]) Tryz.f111 contacts_Add (fun k => ⟨[contacts_of_e k, check_Contact_e k, ContainsFunc_of_e k, ContainsFunc_ov_e k, ContainsFunc_r1_e k, contacts_Compare_e k, slices_Clone_api_Contact_api_Contact_e k, BinarySearchFunc_C_e k], [slices_Insert_m k], [hkStr Tryz.prog]⟩) [] Tryz.func111 (by kernel_rfl) (by kernel_rfl) trivial (fun k x => by kernel_rfl) fun _ _ => by kernel_rfl
def ranges_Right_L0 : Nat → ((List GRange) × (List GRange) × Int × Int) → Option ((List GRange) ⊕ (Bool))
  | 0, _ => none
  | k + 1, (l, t5, t6, t7) =>
  bif decide (t7 < t6) then
  bif decide (0 ≤ t7) then
   bif decide (t7 < Int.ofNat (List.length t5)) then
    (check_Range k (List.getD t5 (Int.toNat t7) (0, 0, 0, 0, 0))).bind fun o_4 =>
     bif o_4 then
      bif decide (0 < t7) then
       bif decide (0 ≤ w64 (t7 - 1)) then
        bif decide (w64 (t7 - 1) < Int.ofNat (List.length l)) then
         (ranges_Compare k (List.getD l (Int.toNat (w64 (t7 - 1))) (0, 0, 0, 0, 0), List.getD t5 (Int.toNat t7) (0, 0, 0, 0, 0))).bind fun o_9 =>
          bif decide (0 ≤ o_9) then
           some (Sum.inr false)
          else
           bif decide (0 ≤ w64 (t7 - 1)) then
            bif decide (w64 (t7 - 1) < Int.ofNat (List.length l)) then
             (ranges_overlap k (List.getD l (Int.toNat (w64 (t7 - 1))) (0, 0, 0, 0, 0), List.getD t5 (Int.toNat t7) (0, 0, 0, 0, 0))).bind fun o_13 =>
              bif o_13 then
               some (Sum.inr false)
              else
               ranges_Right_L0 k (l, t5, t6, w64 (t7 + 1))
            else
             none
           else
            none
        else
         none
       else
        none
      else
       ranges_Right_L0 k (l, t5, t6, w64 (t7 + 1))
     else
      some (Sum.inr false)
   else
    none
  else
   none
 else
  some (Sum.inl l)
def ranges_Right (k : Nat) : (List GRange) → Option (Bool) := fun (l) =>
  (ranges_Right_L0 k (l, l, Int.ofNat (List.length l), 0)).bind fun o_1 =>
  match o_1 with
  | .inl o_2 =>
   bif decide (Int.ofNat (List.length o_2) ≤ 4096) then
    some (true)
   else
    some (false)
  | .inr o_2 =>
   some (o_2)
noncomputable def ranges_Right_e := entOf (P := Tryz.prog) (A := [.one (.row 36 kGRange)]) (R := [.one (.sc (.bool))]) Tryz.f80 ranges_Right (fun k => ⟨[check_Range_e k, ranges_Compare_e k, ranges_overlap_e k], [], [hkStr Tryz.prog]⟩) [some ⟨0, [(0, .one (.ro kGRange)), (5, .one (.ro kGRange)), (6, .one (.sc (.int .i64))), (7, .one (.sc (.int .i64)))], [(0, .one (.ro kGRange))], ranges_Right_L0⟩] Tryz.func80 (by kernel_rfl) (by kernel_rfl) ⟨⟨fun _ => rfl, fun k x => by kernel_rfl⟩, trivial⟩ (fun k x => by kernel_rfl) fun _ _ => by kernel_rfl
def plan_Copy (k : Nat) : GPlan → Option (GPlan) := fun (p) =>
  (slices_Clone_api_Contact_api_Contact k p.1).bind fun o_1 =>
  (slices_Clone_api_Range_api_Range k p.2.1).bind fun o_2 =>
   some ((o_1, o_2, p.2.2))
noncomputable def plan_Copy_e := entOf (P := Tryz.prog) (A := [.agg lGPlan]) (R := [.agg lGPlan]) Tryz.f103 plan_Copy (fun k => ⟨[slices_Clone_api_Contact_api_Contact_e k, slices_Clone_api_Range_api_Range_e k], [], [hkStr Tryz.prog]⟩) [] Tryz.func103 (by kernel_rfl) (by kernel_rfl) trivial (fun k x => by kernel_rfl) fun _ _ => by kernel_rfl
def plan_past (k : Nat) : (GDirective × Int) → Option (Bool) := fun (d, now) =>
  bif decide (d.1 = 1) then
  bif decide (mx d.2.2.2.2.2.2.1 d.2.2.2.2.2.2.2.2.2.2.2.1 ≤ now) then
   some (true)
  else
   some (false)
 else
  some (false)
noncomputable def plan_past_e := entOf (P := Tryz.prog) (A := [.agg lGDirective, .one (.sc (.int .i64))]) (R := [.one (.sc (.bool))]) Tryz.f110 plan_past (fun k => ⟨[], [], [hkStr Tryz.prog]⟩) [] Tryz.func110 (by kernel_rfl) (by kernel_rfl) trivial (fun k x => by kernel_rfl) fun _ _ => by kernel_rfl
def ranges_Add (k : Nat) : ((List GRange) × GRange) → Option ((List GRange) × Int) := fun (l, r) =>
  (slices_Clone_api_Range_api_Range k l).bind fun o_1 =>
  (check_Range k r).bind fun o_2 =>
   bif o_2 then
    bif decide (4096 ≤ Int.ofNat (List.length o_1)) then
     some ((o_1, 3))
    else
     (ContainsFuncR_ov k (o_1, r)).bind fun o_5 =>
      bif o_5 then
       some ((o_1, 5))
      else
       (BinarySearchFunc_R k (o_1, r, ())).bind fun o_7 =>
        bif o_7.2 then
         (slices_InsertR k o_1 (o_7.1, [r])).bind fun o_9 =>
          some ((o_9, 0))
        else
         (slices_InsertR k o_1 (o_7.1, [r])).bind fun o_9 =>
          some ((o_9, 0))
   else
    some ((o_1, 1))
noncomputable def ranges_Add_e := entOf (P := Tryz.prog) (A := [.one (.row 36 kGRange), .agg lGRange]) (R := [.one (.row 36 kGRange), .one (.sc (.int .i64))]) Tryz.f114 ranges_Add (fun k => ⟨[ContainsFuncR_r2_e k, ContainsFuncR_ov_e k, ContainsFuncR_ex_e k, check_Range_e k, ranges_Compare_e k, slices_Clone_api_Range_api_Range_e k, BinarySearchFunc_R_e k], [slices_InsertR_m k], [hkStr Tryz.prog]⟩) [] Tryz.func114 (by kernel_rfl) (by kernel_rfl) trivial (fun k x => by kernel_rfl) fun _ _ => by kernel_rfl
def ranges_Delete (k : Nat) : ((List GRange) × GRange) → Option ((List GRange) × Int) := fun (l, r) =>
  (slices_Clone_api_Range_api_Range k l).bind fun o_1 =>
  (BinarySearchFunc_R k (o_1, r, ())).bind fun o_2 =>
   bif o_2.2 then
    (slices_DeleteR k o_1 (o_2.1, w64 (o_2.1 + 1))).bind fun o_4 =>
     some ((o_4, 0))
   else
    some ((o_1, 6))
noncomputable def ranges_Delete_e := entOf (P := Tryz.prog) (A := [.one (.row 36 kGRange), .agg lGRange]) (R := [.one (.row 36 kGRange), .one (.sc (.int .i64))]) Tryz.f115 ranges_Delete (fun k => ⟨[ranges_Compare_e k, slices_Clone_api_Range_api_Range_e k, BinarySearchFunc_R_e k], [slices_DeleteR_m k], [hkStr Tryz.prog]⟩) [] Tryz.func115 (by kernel_rfl) (by kernel_rfl) trivial (fun k x => by kernel_rfl) fun _ _ => by kernel_rfl
def ranges_Change (k : Nat) : ((List GRange) × GRange) → Option ((List GRange) × Int) := fun (l, r) =>
  (slices_Clone_api_Range_api_Range k l).bind fun o_1 =>
  (BinarySearchFunc_R k (o_1, r, ())).bind fun o_2 =>
   bif o_2.2 then
    bif decide (r.2.2.2.2 < 0) then
     some ((o_1, 1))
    else
     bif decide (2147483647 < r.2.2.2.2) then
      some ((o_1, 1))
     else
      bif decide (0 ≤ o_2.1) then
       bif decide (o_2.1 < Int.ofNat (List.length o_1)) then
        some ((List.set o_1 (Int.toNat o_2.1) ((List.getD o_1 (Int.toNat o_2.1) (0, 0, 0, 0, 0)).1, (List.getD o_1 (Int.toNat o_2.1) (0, 0, 0, 0, 0)).2.1, (List.getD o_1 (Int.toNat o_2.1) (0, 0, 0, 0, 0)).2.2.1, (List.getD o_1 (Int.toNat o_2.1) (0, 0, 0, 0, 0)).2.2.2.1, r.2.2.2.2), 0))
       else
        none
      else
       none
   else
    bif decide (r.2.2.2.2 < 0) then
     some ((o_1, 1))
    else
     bif decide (2147483647 < r.2.2.2.2) then
      some ((o_1, 1))
     else
      some ((o_1, 6))
noncomputable def ranges_Change_e := entOf (P := Tryz.prog) (A := [.one (.row 36 kGRange), .agg lGRange]) (R := [.one (.row 36 kGRange), .one (.sc (.int .i64))]) Tryz.f116 ranges_Change (fun k => ⟨[ranges_Compare_e k, slices_Clone_api_Range_api_Range_e k, BinarySearchFunc_R_e k], [], [hkStr Tryz.prog]⟩) [] Tryz.func116 (by kernel_rfl) (by kernel_rfl) trivial (fun k x => by kernel_rfl) fun _ _ => by kernel_rfl
def ranges_Expire (k : Nat) : ((List GRange) × Int) → Option (List GRange) := fun (l, now) =>
  (slices_Clone_api_Range_api_Range k l).bind fun o_1 =>
  (DeleteFuncR_ex k o_1 now).bind fun o_2 =>
   some (o_2)
noncomputable def ranges_Expire_e := entOf (P := Tryz.prog) (A := [.one (.row 36 kGRange), .one (.sc (.int .i64))]) (R := [.one (.row 36 kGRange)]) Tryz.f127 ranges_Expire (fun k => ⟨[slices_Clone_api_Range_api_Range_e k], [DeleteFuncR_ex_m k], [hkStr Tryz.prog]⟩) [] Tryz.func127 (by kernel_rfl) (by kernel_rfl) trivial (fun k x => by kernel_rfl) fun _ _ => by kernel_rfl
def plan_Right (k : Nat) : GPlan → Option (Bool) := fun (p) =>
  bif decide (p.2.2.1 < 0) then
  some (false)
 else
  bif decide (2147483647 < p.2.2.1) then
   some (false)
  else
   bif decide (p.2.2.2 < 0) then
    some (false)
   else
    bif decide (1099511627776 < p.2.2.2) then
     some (false)
    else
     (ContainsFunc_r1 k (p.1, p)).bind fun o_5 =>
      bif o_5 then
       some (false)
      else
       (ContainsFuncR_r2 k (p.2.1, p)).bind fun o_7 =>
        bif o_7 then
         some (false)
        else
         (contacts_Right k p.1).bind fun o_9 =>
          bif o_9 then
           (ranges_Right k p.2.1).bind fun o_11 =>
            bif o_11 then
             some (true)
            else
             some (false)
          else
           some (false)
noncomputable def plan_Right_e := entOf (P := Tryz.prog) (A := [.agg lGPlan]) (R := [.one (.sc (.bool))]) Tryz.f36 plan_Right (fun k => ⟨[ContainsFunc_of_e k, ContainsFunc_ov_e k, ContainsFunc_r1_e k, ContainsFuncR_r2_e k, ContainsFuncR_ov_e k, ContainsFuncR_ex_e k, contacts_Right_e k, ranges_Right_e k], [], [hkStr Tryz.prog]⟩) [] Tryz.func36 (by kernel_rfl) (by kernel_rfl) trivial (fun k x => by kernel_rfl) fun _ _ => by kernel_rfl
def plan_Apply (k : Nat) : (GPlan × GDirective) → Option (GPlan × Int) := fun (p, d) =>
  (plan_Copy k p).bind fun o_1 =>
  (direct_Right k d).bind fun o_2 =>
   bif o_2 then
    (plan_past k (d, o_1.2.2.1)).bind fun o_4 =>
     bif o_4 then
      some ((o_1, 7))
     else
      bif d.1 == 1 && d.2.1 == 1 then
       (contacts_Add k (o_1.1, d.2.2.1, d.2.2.2.1, d.2.2.2.2.1, d.2.2.2.2.2.1, d.2.2.2.2.2.2.1, d.2.2.2.2.2.2.2.1)).bind fun o_7 =>
        bif !decide (o_7.2 = 0) then
         some ((o_1, o_7.2))
        else
         some (((o_7.1, o_1.2.1, o_1.2.2.1, mn (w64 (o_1.2.2.2 + 1)) 1099511627776), 0))
      else
       bif d.1 == 2 && d.2.1 == 1 then
        (contacts_Delete k (o_1.1, d.2.2.1)).bind fun o_8 =>
         bif !decide (o_8.2 = 0) then
          some ((o_1, o_8.2))
         else
          some (((o_8.1, o_1.2.1, o_1.2.2.1, mn (w64 (o_1.2.2.2 + 1)) 1099511627776), 0))
       else
        bif d.1 == 3 && d.2.1 == 1 then
         (contacts_Change k (o_1.1, d.2.2.1, d.2.2.2.2.2.2.2.1)).bind fun o_9 =>
          bif !decide (o_9.2 = 0) then
           some ((o_1, o_9.2))
          else
           some (((o_9.1, o_1.2.1, o_1.2.2.1, mn (w64 (o_1.2.2.2 + 1)) 1099511627776), 0))
        else
         bif d.1 == 1 && d.2.1 == 2 then
          (ranges_Add k (o_1.2.1, d.2.2.2.2.2.2.2.2)).bind fun o_10 =>
           bif !decide (o_10.2 = 0) then
            some ((o_1, o_10.2))
           else
            some (((o_1.1, o_10.1, o_1.2.2.1, mn (w64 (o_1.2.2.2 + 1)) 1099511627776), 0))
         else
          bif d.1 == 2 && d.2.1 == 2 then
           (ranges_Delete k (o_1.2.1, d.2.2.2.2.2.2.2.2)).bind fun o_11 =>
            bif !decide (o_11.2 = 0) then
             some ((o_1, o_11.2))
            else
             some (((o_1.1, o_11.1, o_1.2.2.1, mn (w64 (o_1.2.2.2 + 1)) 1099511627776), 0))
          else
           (ranges_Change k (o_1.2.1, d.2.2.2.2.2.2.2.2)).bind fun o_11 =>
            bif !decide (o_11.2 = 0) then
             some ((o_1, o_11.2))
            else
             some (((o_1.1, o_11.1, o_1.2.2.1, mn (w64 (o_1.2.2.2 + 1)) 1099511627776), 0))
   else
    some ((o_1, 1))
noncomputable def plan_Apply_e := entOf (P := Tryz.prog) (A := [.agg lGPlan, .agg lGDirective]) (R := [.agg lGPlan, .one (.sc (.int .i64))]) Tryz.f67 plan_Apply (fun k => ⟨[plan_Copy_e k, direct_Right_e k, plan_past_e k, contacts_Add_e k, contacts_Delete_e k, contacts_Change_e k, ranges_Add_e k, ranges_Delete_e k, ranges_Change_e k], [], [hkStr Tryz.prog]⟩) [] Tryz.func67 (by kernel_rfl) (by kernel_rfl) trivial (fun k x => by kernel_rfl) fun _ _ => by kernel_rfl
def plan_Advance (k : Nat) : (GPlan × Int) → Option (GPlan × (List Int) × Int) := fun (p, now) =>
  bif decide (now < p.2.2.1) then
  (plan_Copy k p).bind fun o_2 =>
   some ((o_2, [], 7))
 else
  bif decide (2147483647 < now) then
   (plan_Copy k p).bind fun o_3 =>
    some ((o_3, [], 7))
  else
   (contacts_Expire k (p.1, now)).bind fun o_3 =>
    (ranges_Expire k (p.2.1, now)).bind fun o_4 =>
     bif decide (p.2.2.1 < now) then
      some (((o_3.1, o_4, now, mn (w64 (p.2.2.2 + 1)) 1099511627776), o_3.2, 0))
     else
      some (((o_3.1, o_4, now, p.2.2.2), o_3.2, 0))
noncomputable def plan_Advance_e := entOf (P := Tryz.prog) (A := [.agg lGPlan, .one (.sc (.int .i64))]) (R := [.agg lGPlan, .one (.row 3 [.int .i64]), .one (.sc (.int .i64))]) Tryz.f71 plan_Advance (fun k => ⟨[plan_Copy_e k, contacts_Expire_e k, ranges_Expire_e k], [], [hkStr Tryz.prog]⟩) [] Tryz.func71 (by kernel_rfl) (by kernel_rfl) trivial (fun k x => by kernel_rfl) fun _ _ => by kernel_rfl
def plan_Same (k : Nat) : (GPlan × GPlan) → Option (Bool) := fun (a, b) =>
  bif decide (a.2.2.1 = b.2.2.1) then
  bif decide (a.2.2.2 = b.2.2.2) then
   (contacts_Same k (a.1, b.1)).bind fun o_3 =>
    bif o_3 then
     (ranges_Same k (a.2.1, b.2.1)).bind fun o_5 =>
      bif o_5 then
       some (true)
      else
       some (false)
    else
     some (false)
  else
   some (false)
 else
  some (false)
noncomputable def plan_Same_e := entOf (P := Tryz.prog) (A := [.agg lGPlan, .agg lGPlan]) (R := [.one (.sc (.bool))]) Tryz.f23 plan_Same (fun k => ⟨[contacts_Same_e k, ranges_Same_e k], [], [hkStr Tryz.prog]⟩) [] Tryz.func23 (by kernel_rfl) (by kernel_rfl) trivial (fun k x => by kernel_rfl) fun _ _ => by kernel_rfl
def plan_New (k : Nat) : Unit → Option (GPlan) := fun _ =>
  some (([], [], 0, 0))
noncomputable def plan_New_e := entOf (P := Tryz.prog) (A := []) (R := [.agg lGPlan]) Tryz.f74 plan_New (fun k => ⟨[], [], [hkStr Tryz.prog]⟩) [] Tryz.func74 (by kernel_rfl) (by kernel_rfl) trivial (fun k x => by kernel_rfl) fun _ _ => by kernel_rfl
end Ex
namespace Ex
open Go
theorem w64_id {n : Int} (h0 : -9223372036854775808 ≤ n) (h1 : n ≤ 9223372036854775807) : w64 n = n := by
  unfold w64 IntKind.wrap
  simp [IntKind.signed, IntKind.bits, Int.bmod]
  omega
theorem num_In_spec (k : Nat) (n lo hi : Int) : num_In k (n, lo, hi) = some (decide (lo ≤ n ∧ n ≤ hi)) := by
  unfold num_In
  by_cases h1 : lo ≤ n <;> by_cases h2 : n ≤ hi <;> simp [h1, h2]
def nodeB (n : Int) : Bool := decide (1 ≤ n ∧ n ≤ 255)
theorem check_Node_spec (k : Nat) (n : Int) : check_Node k n = some (nodeB n) := by
  unfold check_Node
  rw [num_In_spec]
  unfold nodeB
  by_cases h : (1 ≤ n ∧ n ≤ 255) <;> simp [h]
def wayB (a b : Int) : Bool := nodeB a && nodeB b && !decide (a = b)
theorem check_way_spec (k : Nat) (a b : Int) : check_way k (a, b) = some (wayB a b) := by
  unfold check_way wayB
  simp only [check_Node_spec, Option.bind_some]
  cases nodeB a <;> cases nodeB b <;> by_cases h : a = b <;> simp [h]
def spanB (s e : Int) : Bool := decide (0 ≤ s ∧ s < e ∧ e ≤ 2147483647)
theorem check_span_spec (k : Nat) (s e : Int) (he : -9223372036854775808 ≤ e) (he' : e ≤ 9223372036854775807) (hs : -9223372036854775808 ≤ s) (hs' : s ≤ 9223372036854775807) : check_span k (s, e) = some (spanB s e) := by
  unfold check_span spanB
  simp only [num_In_spec, Option.bind_some]
  by_cases h0 : e = -9223372036854775808
  · subst h0
    have : w64 (-9223372036854775808 - 1) = 9223372036854775807 := by decide
    rw [this]
    by_cases h1 : 0 ≤ s <;> simp [h1, hs'] <;> omega
  · rw [w64_id (by omega) (by omega)]
    by_cases h1 : 0 ≤ s <;> by_cases h2 : s ≤ e - 1 <;> by_cases h3 : 1 ≤ e <;> by_cases h4 : e ≤ 2147483647 <;> simp [h1, h2, h3, h4] <;> omega
def conB (c : GContact) : Bool := wayB c.2.1 c.2.2.1 && spanB c.2.2.2.1 c.2.2.2.2.1 && decide (1 ≤ c.1 ∧ c.1 ≤ 1048576) && decide (1 ≤ c.2.2.2.2.2 ∧ c.2.2.2.2.2 ≤ 2147483647)
theorem check_Contact_spec (k : Nat) (c : GContact) (h1 : -9223372036854775808 ≤ c.2.2.2.1 ∧ c.2.2.2.1 ≤ 9223372036854775807) (h2 : -9223372036854775808 ≤ c.2.2.2.2.1 ∧ c.2.2.2.2.1 ≤ 9223372036854775807) : check_Contact k c = some (conB c) := by
  unfold check_Contact conB
  simp only [check_way_spec, check_span_spec _ _ _ h2.1 h2.2 h1.1 h1.2, num_In_spec, Option.bind_some]
  cases wayB c.2.1 c.2.2.1 <;> cases spanB c.2.2.2.1 c.2.2.2.2.1 <;> by_cases h3 : (1 ≤ c.1 ∧ c.1 ≤ 1048576) <;> by_cases h4 : (1 ≤ c.2.2.2.2.2 ∧ c.2.2.2.2.2 ≤ 2147483647) <;> simp [h3, h4]
def cmpI (a b : Int) : Int := if a < b then -1 else if b < a then 1 else 0
theorem cmp_Compare_spec (k : Nat) (a b : Int) : cmp_Compare_int k (a, b) = some (cmpI a b) := by
  unfold cmp_Compare_int cmpI cmp_isNaN_int
  by_cases h1 : a < b <;> by_cases h2 : b < a <;> simp [h1, h2]
theorem cmp_Or4_spec (k : Nat) (a b c d : Int) : cmp_Or_int (k + 5) [a, b, c, d] = some (if a ≠ 0 then a else if b ≠ 0 then b else if c ≠ 0 then c else d) := by
  unfold cmp_Or_int
  have e1 : w64 (0 + 1) = 1 := by decide
  have e2 : w64 (1 + 1) = 2 := by decide
  have e3 : w64 (2 + 1) = 3 := by decide
  have e4 : w64 (3 + 1) = 4 := by decide
  simp only [cmp_Or_int_L0, List.length_cons, List.length_nil, e1, e2, e3, e4]
  by_cases h1 : a = 0 <;> by_cases h2 : b = 0 <;> by_cases h3 : c = 0 <;> by_cases h4 : d = 0 <;> simp [h1, h2, h3, h4, e1, e2, e3, e4]
def cmpC (a b : GContact) : Int := if cmpI a.2.1 b.2.1 ≠ 0 then cmpI a.2.1 b.2.1 else if cmpI a.2.2.1 b.2.2.1 ≠ 0 then cmpI a.2.2.1 b.2.2.1 else if cmpI a.2.2.2.1 b.2.2.2.1 ≠ 0 then cmpI a.2.2.2.1 b.2.2.2.1 else cmpI a.1 b.1
theorem contacts_Compare_spec (k : Nat) (a b : GContact) : contacts_Compare (k + 5) (a, b) = some (cmpC a b) := by
  unfold contacts_Compare cmpC
  simp only [cmp_Compare_spec, Option.bind_some, cmp_Or4_spec]
def ovB (a b : GContact) : Bool := decide (a.2.1 = b.2.1) && decide (a.2.2.1 = b.2.2.1) && decide (max a.2.2.2.1 b.2.2.2.1 < min a.2.2.2.2.1 b.2.2.2.2.1)
theorem contacts_overlap_spec (k : Nat) (a b : GContact) : contacts_overlap k (a, b) = some (ovB a b) := by
  unfold contacts_overlap ovB
  have hx : ∀ x y : Int, mx x y = max x y := by intro x y; unfold mx; omega
  have hn : ∀ x y : Int, mn x y = min x y := by intro x y; unfold mn; omega
  simp only [hx, hn]
  by_cases h1 : a.2.1 = b.2.1 <;> by_cases h2 : a.2.2.1 = b.2.2.1 <;> by_cases h3 : max a.2.2.2.1 b.2.2.2.1 < min a.2.2.2.2.1 b.2.2.2.2.1 <;> simp [h1, h2, h3]
theorem contacts_of_spec (k : Nat) (id : Int) : contacts_of k id = some id := by unfold contacts_of; rfl
theorem of1_spec (k : Nat) (c : GContact) (id : Int) : contacts_of_1 k (c, id) = some (decide (c.1 = id)) := by
  unfold contacts_of_1
  by_cases h : c.1 = id <;> simp [h]
theorem getD_drop {α : Type} {s : List α} {i : Nat} {d : α} (h : i < s.length) : s.drop i = s.getD i d :: s.drop (i + 1) := by
  rw [List.drop_eq_getElem_cons h, List.getD_eq_getElem?_getD, List.getElem?_eq_getElem h]; rfl
theorem i_lt {i n : Nat} : decide ((i : Int) < Int.ofNat n) = decide (i < n) := by
  simp
theorem w64_succ {i : Nat} (h : i < 4611686018427387904) : w64 ((i : Int) + 1) = ((i + 1 : Nat) : Int) := by
  rw [w64_id (by omega) (by omega)]; omega
def firstI (p : GContact → Bool) (s : List GContact) (i : Nat) : Unit ⊕ Int := match (s.drop i).findIdx? p with
  | none => .inl ()
  | some j => .inr ((i + j : Nat) : Int)
theorem firstI_end {p : GContact → Bool} {s : List GContact} {i : Nat} (h : s.length ≤ i) : firstI p s i = .inl () := by
  unfold firstI; rw [List.drop_eq_nil_of_le h]; rfl
theorem firstI_step {p : GContact → Bool} {s : List GContact} {i : Nat} {d : GContact} (h : i < s.length) : firstI p s i = if p (s.getD i d) then .inr (i : Int) else firstI p s (i + 1) := by
  unfold firstI
  rw [getD_drop (d := d) h, List.findIdx?_cons]
  generalize s.getD i d = x
  by_cases hp : p x = true
  · simp [hp]
  · simp only [hp]
    cases (s.drop (i + 1)).findIdx? p with
    | none => rfl
    | some j => simp; omega
theorem IndexFunc_of_L0_spec (s : List GContact) (f : Int) (hs : s.length < 4611686018427387904) : ∀ (n i k : Nat), s.length - i = n → n < k → IndexFunc_of_L0 k (s, f, Int.ofNat s.length, (i : Int)) = some (firstI (fun c => decide (c.1 = f)) s i)
  | 0, i, k + 1, hn, hk => by
    rw [firstI_end (by omega)]
    simp only [IndexFunc_of_L0]
    rw [i_lt, dcF (by omega)]
    rfl
  | n + 1, i, k + 1, hn, hk => by
    have hi : i < s.length := by omega
    rw [firstI_step (d := (0, 0, 0, 0, 0, 0)) hi]
    simp only [IndexFunc_of_L0]
    rw [i_lt, dcT hi, dcT (Int.natCast_nonneg i)]
    simp only [cond_true, of1_spec, Option.bind_some, Int.toNat_natCast, w64_succ (by omega : i < 4611686018427387904), IndexFunc_of_L0_spec s f hs n (i + 1) k (by omega) (by omega)]
    generalize s.getD i (0, 0, 0, 0, 0, 0) = x
    by_cases h : x.1 = f <;> simp [h]
def findIx (p : GContact → Bool) (s : List GContact) : Int := match s.findIdx? p with
  | none => -1
  | some j => (j : Int)
theorem IndexFunc_of_spec (s : List GContact) (f : Int) (k : Nat) (hs : s.length < 4611686018427387904) (hk : s.length < k) : IndexFunc_of k (s, f) = some (findIx (fun c => decide (c.1 = f)) s) := by
  unfold IndexFunc_of findIx
  have := IndexFunc_of_L0_spec s f hs s.length 0 k (by omega) hk
  rw [Int.natCast_zero] at this
  simp only [this, Option.bind_some]
  unfold firstI
  rw [List.drop_zero]
  cases s.findIdx? (fun c => decide (c.1 = f)) <;> simp
def findC (l : List GContact) (id : Int) : GContact × Bool := match l.find? (fun c => decide (c.1 = id)) with
  | some c => (c, true)
  | none => ((0, 0, 0, 0, 0, 0), false)
theorem contacts_Find_spec (l : List GContact) (id : Int) (k : Nat) (hs : l.length < 4611686018427387904) (hk : l.length < k) : contacts_Find k (l, id) = some (findC l id) := by
  unfold contacts_Find findC
  simp only [contacts_of_spec, Option.bind_some, IndexFunc_of_spec l id k hs hk]
  unfold findIx
  cases h : l.findIdx? (fun c => decide (c.1 = id)) with
  | none =>
    have : l.find? (fun c => decide (c.1 = id)) = none := by
      rw [List.find?_eq_none]
      intro x hx
      have := List.findIdx?_eq_none_iff.1 h x hx
      simpa using this
    rw [this]
    simp
  | some j =>
    obtain ⟨hj, hp, hlt⟩ := List.findIdx?_eq_some_iff_getElem.1 h
    have : l.find? (fun c => decide (c.1 = id)) = some l[j] := by
      rw [List.find?_eq_some_iff_getElem]
      exact ⟨hp, j, hj, rfl, fun q hq => by simpa using hlt q hq⟩
    rw [this]
    have hg : List.getD l j (0, 0, 0, 0, 0, 0) = l[j] := by rw [List.getD_eq_getElem?_getD, List.getElem?_eq_getElem hj]; rfl
    simp [hj, hg]
theorem drop_same {α : Type} {a b : List α} {i : Nat} {d : α} (h : i < a.length) (hl : a.length = b.length) : (a.drop i = b.drop i) ↔ (a.getD i d = b.getD i d ∧ a.drop (i + 1) = b.drop (i + 1)) := by
  rw [getD_drop (s := a) (d := d) h, getD_drop (s := b) (d := d) (hl ▸ h), List.cons.injEq]
theorem eq6 (x y : GContact) : (x.1 == y.1 && (x.2.1 == y.2.1 && (x.2.2.1 == y.2.2.1 && (x.2.2.2.1 == y.2.2.2.1 && (x.2.2.2.2.1 == y.2.2.2.2.1 && x.2.2.2.2.2 == y.2.2.2.2.2))))) = decide (x = y) := by
  obtain ⟨a, b, c, d, e, f⟩ := x
  obtain ⟨a', b', c', d', e', f'⟩ := y
  rw [Bool.eq_iff_iff]
  simp
def sameI {α : Type} [DecidableEq α] (a b : List α) (i : Nat) : Unit ⊕ Bool := if a.drop i = b.drop i then .inl () else .inr false
theorem sameI_step {α : Type} [DecidableEq α] {a b : List α} {i : Nat} (d : α) (h : i < a.length) (hl : a.length = b.length) : sameI a b i = if a.getD i d = b.getD i d then sameI a b (i + 1) else .inr false := by
  unfold sameI
  by_cases h1 : a.getD i d = b.getD i d
  · rw [if_pos h1]
    by_cases h2 : a.drop (i + 1) = b.drop (i + 1)
    · rw [if_pos h2, if_pos ((drop_same h hl).2 ⟨h1, h2⟩)]
    · rw [if_neg h2, if_neg (fun h3 => h2 ((drop_same (d := d) h hl).1 h3).2)]
  · rw [if_neg h1, if_neg (fun h3 => h1 ((drop_same h hl).1 h3).1)]
theorem sameI_end {α : Type} [DecidableEq α] {a b : List α} {i : Nat} (h : a.length ≤ i) (hl : a.length = b.length) : sameI a b i = .inl () := by
  unfold sameI
  rw [List.drop_eq_nil_of_le h, List.drop_eq_nil_of_le (hl ▸ h), if_pos rfl]
theorem Equal_L0_spec (a b : List GContact) (hs : a.length < 4611686018427387904) (hl : a.length = b.length) : ∀ (n i k : Nat), a.length - i = n → n < k → slices_Equal_api_Contact_api_Contact_L0 k (a, b, Int.ofNat a.length, (i : Int)) = some (sameI a b i)
  | 0, i, k + 1, hn, hk => by
    rw [sameI_end (by omega) hl]
    simp only [slices_Equal_api_Contact_api_Contact_L0]
    rw [i_lt, dcF (by omega)]
    rfl
  | n + 1, i, k + 1, hn, hk => by
    have hi : i < a.length := by omega
    rw [sameI_step (0, 0, 0, 0, 0, 0) hi hl]
    simp only [slices_Equal_api_Contact_api_Contact_L0, eq6]
    rw [i_lt, dcT hi, dcT (Int.natCast_nonneg i), i_lt, dcT (hl ▸ hi : i < b.length)]
    simp only [cond_true, Int.toNat_natCast, w64_succ (by omega : i < 4611686018427387904), Equal_L0_spec a b hs hl n (i + 1) k (by omega) (by omega)]
    by_cases h : a.getD i (0, 0, 0, 0, 0, 0) = b.getD i (0, 0, 0, 0, 0, 0)
    · rw [if_pos h, dcT h]; rfl
    · rw [if_neg h, dcF h]; rfl
theorem Equal_spec (a b : List GContact) (k : Nat) (hs : a.length < 4611686018427387904) (hk : a.length < k) : slices_Equal_api_Contact_api_Contact k (a, b) = some (decide (a = b)) := by
  unfold slices_Equal_api_Contact_api_Contact
  dsimp only
  by_cases hl : a.length = b.length
  · have := Equal_L0_spec a b hs hl a.length 0 k (by omega) hk
    rw [Int.natCast_zero] at this
    rw [dcT (by rw [hl] : Int.ofNat a.length = Int.ofNat b.length)]
    simp only [this, Bool.not_true, cond_false, Option.bind_some]
    unfold sameI
    by_cases h : a = b <;> simp [h]
  · have : ¬ a = b := fun h => hl (by rw [h])
    have h' : ¬ (Int.ofNat a.length = Int.ofNat b.length) := fun h => hl (Int.ofNat.inj h)
    rw [dcF h', dcF this]
    rfl
theorem Same_L0_spec (a b : List GContact) (hs : a.length < 4611686018427387904) (hl : a.length = b.length) : ∀ (n i k : Nat), a.length - i = n → n < k → rf06_Same_L0 k (a, b, (i : Int)) = some (sameI a b i)
  | 0, i, k + 1, hn, hk => by
    rw [sameI_end (by omega) hl]
    simp only [rf06_Same_L0]
    rw [i_lt, dcF (by omega)]
    rfl
  | n + 1, i, k + 1, hn, hk => by
    have hi : i < a.length := by omega
    rw [sameI_step (0, 0, 0, 0, 0, 0) hi hl]
    simp only [rf06_Same_L0, eq6]
    rw [i_lt, dcT hi, dcT (Int.natCast_nonneg i), i_lt, dcT (hl ▸ hi : i < b.length)]
    simp only [cond_true, Int.toNat_natCast, w64_succ (by omega : i < 4611686018427387904), Same_L0_spec a b hs hl n (i + 1) k (by omega) (by omega)]
    by_cases h : a.getD i (0, 0, 0, 0, 0, 0) = b.getD i (0, 0, 0, 0, 0, 0)
    · rw [if_pos h, dcT h]; rfl
    · rw [if_neg h, dcF h]; rfl
theorem ref06_Same_spec (a b : List GContact) (k : Nat) (hs : a.length < 4611686018427387904) (hk : a.length < k) : rf06_Same k (a, b) = some (decide (a = b)) := by
  unfold rf06_Same
  dsimp only
  by_cases hl : a.length = b.length
  · have := Same_L0_spec a b hs hl a.length 0 k (by omega) hk
    rw [Int.natCast_zero] at this
    rw [dcT (by rw [hl] : Int.ofNat a.length = Int.ofNat b.length)]
    simp only [this, Bool.not_true, cond_false, Option.bind_some]
    unfold sameI
    by_cases h : a = b <;> simp [h]
  · have : ¬ a = b := fun h => hl (by rw [h])
    have h' : ¬ (Int.ofNat a.length = Int.ofNat b.length) := fun h => hl (Int.ofNat.inj h)
    rw [dcF h', dcF this]
    rfl
theorem Clone_spec (l : List GContact) (k : Nat) (h : l.length ≤ 1000000000) : slices_Clone_api_Contact_api_Contact k l = some l := by
  unfold slices_Clone_api_Contact_api_Contact
  rw [dcT (by omega)]
  rfl
theorem ref06_Copy_spec (l : List GContact) (k : Nat) (h : l.length ≤ 1000000000) : rf06_Copy k l = some l := by
  unfold rf06_Copy
  rw [dcT (by omega)]
  rfl
def keepC (id : Int) (c : GContact) : Bool := !decide (c.1 = id)
theorem filter_take_succ {α : Type} {p : α → Bool} {s : List α} {j : Nat} (d : α) (h : j < s.length) : (s.take (j + 1)).filter p = (s.take j).filter p ++ (if p (s.getD j d) then [s.getD j d] else []) := by
  rw [List.take_add_one, List.getD_eq_getElem?_getD, List.getElem?_eq_getElem h, List.filter_append]
  congr 1
  simp only [Option.toList, Option.getD_some]
  by_cases hp : p s[j] = true <;> simp [hp]
theorem take_set_self {α : Type} {t : List α} {i : Nat} {x : α} (h : i < t.length) : (t.set i x).take (i + 1) = t.take i ++ [x] := by
  rw [List.take_add_one, List.getElem?_set_self h, List.take_set_of_le (Nat.le_refl i)]
  rfl
theorem DeleteFunc_L0_spec (s : List GContact) (f : Int) (hs : s.length < 4611686018427387904) : ∀ (n i j k : Nat) (t : List GContact), t.length = s.length → s.length - j = n → n < k → i ≤ j → j ≤ s.length → t.take i = (s.take j).filter (keepC f) → t.drop j = s.drop j →
    ∃ (t' : List GContact) (i' : Nat), DeleteFunc_of_L0 k (t, f, (i : Int), (j : Int)) = some (.inl (t', (i' : Int))) ∧ t'.length = s.length ∧ i' ≤ s.length ∧ t'.take i' = s.filter (keepC f)
  | 0, i, j, k + 1, t, hl, hn, hk, hij, hj, h1, h2 => by
    refine ⟨t, i, ?_, hl, by omega, ?_⟩
    · simp only [DeleteFunc_of_L0]
      rw [i_lt, dcF (by omega)]
      rfl
    · rw [h1, List.take_of_length_le (by omega)]
  | n + 1, i, j, k + 1, t, hl, hn, hk, hij, hj, h1, h2 => by
    have hjt : j < t.length := by omega
    have hjs : j < s.length := by omega
    have hx : t.getD j (0, 0, 0, 0, 0, 0) = s.getD j (0, 0, 0, 0, 0, 0) := by
      have h3 := h2
      rw [getD_drop (d := (0, 0, 0, 0, 0, 0)) hjt, getD_drop (d := (0, 0, 0, 0, 0, 0)) hjs, List.cons.injEq] at h3
      exact h3.1
    have hd : t.drop (j + 1) = s.drop (j + 1) := by
      have h3 := h2
      rw [getD_drop (d := (0, 0, 0, 0, 0, 0)) hjt, getD_drop (d := (0, 0, 0, 0, 0, 0)) hjs, List.cons.injEq] at h3
      exact h3.2
    have hf := filter_take_succ (p := keepC f) (0, 0, 0, 0, 0, 0) hjs
    simp only [DeleteFunc_of_L0]
    rw [i_lt, dcT hjt, dcT (Int.natCast_nonneg j)]
    simp only [cond_true, of1_spec, Option.bind_some, Int.toNat_natCast, hx, w64_succ (by omega : j < 4611686018427387904), w64_succ (by omega : i < 4611686018427387904)]
    rw [i_lt, dcT (by omega : i < t.length), dcT (Int.natCast_nonneg i)]
    generalize hxx : s.getD j (0, 0, 0, 0, 0, 0) = x at *
    by_cases h : x.1 = f
    · rw [dcT h]
      refine DeleteFunc_L0_spec s f hs n i (j + 1) k t hl (by omega) (by omega) (by omega) (by omega) ?_ hd
      rw [hf, h1]
      simp [keepC, h]
    · rw [dcF h]
      simp only [cond_true, cond_false]
      refine DeleteFunc_L0_spec s f hs n (i + 1) (j + 1) k (t.set i x) (by simp [hl]) (by omega) (by omega) (by omega) (by omega) ?_ ?_
      · rw [take_set_self (by omega), hf, h1]
        simp [keepC, h]
      · rw [List.drop_set_of_lt (by omega)]
        exact hd
theorem findIx_cases (p : GContact → Bool) (s : List GContact) : (findIx p s = -1 ∧ ∀ x ∈ s, p x = false) ∨ ∃ j : Nat, findIx p s = (j : Int) ∧ ∃ h : j < s.length, p s[j] = true ∧ ∀ q (hq : q < j), p (s[q]'(by omega)) = false := by
  unfold findIx
  cases h : s.findIdx? p with
  | none => exact .inl ⟨rfl, List.findIdx?_eq_none_iff.1 h⟩
  | some j =>
    obtain ⟨hj, hp, hlt⟩ := List.findIdx?_eq_some_iff_getElem.1 h
    exact .inr ⟨j, rfl, hj, hp, fun q hq => by simpa using hlt q hq⟩
theorem DeleteFunc_spec (s : List GContact) (f : Int) (k : Nat) (hs : s.length < 4611686018427387904) (hk : s.length < k) : DeleteFunc_of k s f = some (s.filter (keepC f)) := by
  unfold DeleteFunc_of
  simp only [IndexFunc_of_spec s f k hs hk, Option.bind_some]
  rcases findIx_cases (fun c => decide (c.1 = f)) s with ⟨h1, h2⟩ | ⟨j, h1, hj, hp, hlt⟩
  · rw [h1]
    have : s.filter (keepC f) = s := List.filter_eq_self.2 (fun x hx => by have := h2 x hx; simp [keepC]; simpa using this)
    rw [this]
    rfl
  · rw [h1, dcF (by omega)]
    simp only [cond_false, w64_succ (by omega : j < 4611686018427387904)]
    have hpre : (s.take j).filter (keepC f) = s.take j := List.filter_eq_self.2 (fun x hx => by
      obtain ⟨q, hq, rfl⟩ := List.mem_iff_getElem.1 hx
      have hq' : q < j := by rw [List.length_take] at hq; omega
      have := hlt q hq'
      simp only [List.getElem_take, keepC]
      simpa using this)
    obtain ⟨t', i', e1, e2, e3, e4⟩ := DeleteFunc_L0_spec s f hs (s.length - (j + 1)) j (j + 1) k s rfl rfl (by omega) (by omega) (by omega) (by
      rw [filter_take_succ (p := keepC f) (0, 0, 0, 0, 0, 0) hj, hpre, List.getD_eq_getElem?_getD, List.getElem?_eq_getElem hj]
      have : s[j].1 = f := by simpa using hp
      simp [keepC, this]) rfl
    rw [e1]
    have hcl : (clearL t' i' ((0, 0, 0, 0, 0, 0) : GContact)).length = t'.length := by
      unfold clearL
      rw [List.length_append, List.length_take, List.length_replicate]; omega
    have htk : (clearL t' i' ((0, 0, 0, 0, 0, 0) : GContact)).take i' = t'.take i' := by
      unfold clearL
      rw [List.take_append_of_le_length (by rw [List.length_take]; omega), List.take_take, Nat.min_self]
    have hle : decide ((i' : Int) ≤ Int.ofNat t'.length) = true := dcT (by rw [e2]; exact Int.ofNat_le.2 e3)
    simp only [Option.bind_some, Int.toNat_natCast, dcT (Int.natCast_nonneg i'), hle, hcl, cond_true, htk, e4]
theorem contacts_Delete_spec (l : List GContact) (id : Int) (k : Nat) (hs : l.length ≤ 1000000000) (hk : l.length < k) : contacts_Delete k (l, id) = some (l.filter (keepC id), if (l.filter (keepC id)).length = l.length then 6 else 0) := by
  unfold contacts_Delete
  simp only [Clone_spec l k hs, contacts_of_spec, Option.bind_some, DeleteFunc_spec l id k (by omega) hk]
  by_cases h : (l.filter (keepC id)).length = l.length
  · rw [dcT (by rw [h]), if_pos h]; rfl
  · rw [dcF (fun e => h (Int.ofNat.inj e)), if_neg h]; rfl
theorem find_drop {p : GContact → Bool} {s : List GContact} {i : Nat} {d : GContact} (h : i < s.length) : (s.drop i).find? p = bif p (s.getD i d) then some (s.getD i d) else (s.drop (i + 1)).find? p := by
  rw [getD_drop (d := d) h, List.find?_cons]
  cases p (s.getD i d) <;> rfl
theorem ref06_Find_L0_spec (l : List GContact) (id : Int) (t4 : GContact) (hs : l.length < 4611686018427387904) : ∀ (n i k : Nat), l.length - i = n → n < k → rf06_Find_L0 k (l, id, t4, (i : Int)) = some (match (l.drop i).find? (fun c => decide (c.1 = id)) with | some c => .inr (c, true) | none => .inl t4)
  | 0, i, k + 1, hn, hk => by
    rw [List.drop_eq_nil_of_le (by omega)]
    simp only [rf06_Find_L0]
    rw [i_lt, dcF (by omega)]
    rfl
  | n + 1, i, k + 1, hn, hk => by
    have hi : i < l.length := by omega
    rw [find_drop (d := (0, 0, 0, 0, 0, 0)) hi]
    simp only [rf06_Find_L0]
    rw [i_lt, dcT hi, dcT (Int.natCast_nonneg i), Int.toNat_natCast]
    simp only [cond_true, w64_succ (by omega : i < 4611686018427387904), ref06_Find_L0_spec l id t4 hs n (i + 1) k (by omega) (by omega)]
    generalize l.getD i (0, 0, 0, 0, 0, 0) = x
    by_cases h : x.1 = id <;> simp [h]
theorem ref06_Find_spec (l : List GContact) (id : Int) (k : Nat) (hs : l.length < 4611686018427387904) (hk : l.length < k) : rf06_Find k (l, id) = some (findC l id) := by
  unfold rf06_Find findC
  have := ref06_Find_L0_spec l id (0, 0, 0, 0, 0, 0) hs l.length 0 k (by omega) hk
  rw [Int.natCast_zero, List.drop_zero] at this
  simp only [this, Option.bind_some]
  cases l.find? (fun c => decide (c.1 = id)) <;> rfl
theorem drop_filter {p : GContact → Bool} {s : List GContact} {i : Nat} (d : GContact) (h : i < s.length) : (s.drop i).filter p = (bif p (s.getD i d) then [s.getD i d] else []) ++ (s.drop (i + 1)).filter p := by
  rw [getD_drop (d := d) h, List.filter_cons]
  cases hp : p (s.getD i d) <;> simp
theorem ref06_Delete_L0_spec (l : List GContact) (id : Int) (hs : l.length ≤ 1000000000) : ∀ (n i k : Nat) (o : List GContact), l.length - i = n → n < k → o.length ≤ i → i ≤ l.length → rf06_Delete_L0 k (l, id, o, (i : Int)) = some (.inl (l, o ++ (l.drop i).filter (keepC id)))
  | 0, i, k + 1, o, hn, hk, ho, hi => by
    rw [List.drop_eq_nil_of_le (by omega)]
    simp only [rf06_Delete_L0]
    rw [i_lt, dcF (by omega)]
    simp
  | n + 1, i, k + 1, o, hn, hk, ho, _ => by
    have hi : i < l.length := by omega
    rw [drop_filter (0, 0, 0, 0, 0, 0) hi]
    simp only [rf06_Delete_L0]
    rw [i_lt, dcT hi, dcT (Int.natCast_nonneg i), Int.toNat_natCast]
    simp only [cond_true, w64_succ (by omega : i < 4611686018427387904)]
    generalize l.getD i (0, 0, 0, 0, 0, 0) = x
    have hsz : decide ((List.length o + List.length [x]) * 48 ≤ 140737488355328) = true := dcT (by simp only [List.length_cons, List.length_nil]; omega)
    rw [hsz]
    by_cases h : x.1 = id
    · rw [dcT h]
      simp only [Bool.not_true, cond_false, ref06_Delete_L0_spec l id hs n (i + 1) k o (by omega) (by omega) (by omega) (by omega)]
      simp [keepC, h]
    · rw [dcF h]
      simp only [Bool.not_false, cond_true, ref06_Delete_L0_spec l id hs n (i + 1) k (o ++ [x]) (by omega) (by omega) (by simp; omega) (by omega)]
      simp [keepC, h]
theorem ref06_Delete_spec (l : List GContact) (id : Int) (k : Nat) (hs : l.length ≤ 1000000000) (hk : l.length < k) : rf06_Delete k (l, id) = some (l.filter (keepC id), if (l.filter (keepC id)).length = l.length then 6 else 0) := by
  unfold rf06_Delete
  have := ref06_Delete_L0_spec l id hs l.length 0 k [] (by omega) hk (by simp) (by omega)
  rw [Int.natCast_zero, List.drop_zero, List.nil_append] at this
  simp only [this, Option.bind_some]
  by_cases h : (l.filter (keepC id)).length = l.length
  · rw [dcT (by rw [h]), if_pos h]; rfl
  · rw [dcF (fun e => h (Int.ofNat.inj e)), if_neg h]; rfl
def rated (c : GContact) (r : Int) : GContact := (c.1, c.2.1, c.2.2.1, c.2.2.2.1, c.2.2.2.2.1, r)
def chgC (l : List GContact) (id rate : Int) : List GContact × Int :=
  if rate < 1 ∨ 2147483647 < rate then (l, 1) else match l.findIdx? (fun c => decide (c.1 = id)) with
    | none => (l, 6)
    | some j => (l.set j (rated (l.getD j (0, 0, 0, 0, 0, 0)) rate), 0)
theorem contacts_Change_spec (l : List GContact) (id rate : Int) (k : Nat) (hs : l.length ≤ 1000000000) (hk : l.length < k) : contacts_Change k (l, id, rate) = some (chgC l id rate) := by
  unfold contacts_Change chgC
  simp only [Clone_spec l k hs, contacts_of_spec, Option.bind_some, IndexFunc_of_spec l id k (by omega) hk]
  by_cases h1 : rate < 1
  · simp [h1]
  · by_cases h2 : 2147483647 < rate
    · simp [h1, h2]
    · rw [if_neg (by omega), dcF h1, dcF h2]
      simp only [cond_false]
      unfold findIx
      cases h : l.findIdx? (fun c => decide (c.1 = id)) with
      | none => rfl
      | some j =>
        obtain ⟨hj, _, _⟩ := List.findIdx?_eq_some_iff_getElem.1 h
        have e1 : decide ((j : Int) < 0) = false := dcF (by omega)
        simp only [e1, cond_false, dcT (Int.natCast_nonneg j), cond_true, Int.toNat_natCast]
        rw [i_lt, dcT hj]
        rfl
theorem firstN_step {p : GContact → Bool} {s : List GContact} {i : Nat} (d : GContact) (h : i < s.length) : (s.drop i).findIdx? p = bif p (s.getD i d) then some 0 else ((s.drop (i + 1)).findIdx? p).map (· + 1) := by
  rw [getD_drop (d := d) h, List.findIdx?_cons]
  cases p (s.getD i d) <;> rfl
theorem ref06_Change_L0_spec (id rate : Int) (l : List GContact) (hs : l.length < 4611686018427387904) : ∀ (n i k : Nat), l.length - i = n → n < k → rf06_Change_L0 k (id, rate, l, (i : Int)) = some (match (l.drop i).findIdx? (fun c => decide (c.1 = id)) with
    | none => .inl l
    | some j => .inr (l.set (i + j) (rated (l.getD (i + j) (0, 0, 0, 0, 0, 0)) rate), 0))
  | 0, i, k + 1, hn, hk => by
    rw [List.drop_eq_nil_of_le (by omega)]
    simp only [rf06_Change_L0]
    rw [i_lt, dcF (by omega)]
    rfl
  | n + 1, i, k + 1, hn, hk => by
    have hi : i < l.length := by omega
    rw [firstN_step (0, 0, 0, 0, 0, 0) hi]
    simp only [rf06_Change_L0]
    rw [i_lt, dcT hi, dcT (Int.natCast_nonneg i), Int.toNat_natCast]
    simp only [cond_true, w64_succ (by omega : i < 4611686018427387904), ref06_Change_L0_spec id rate l hs n (i + 1) k (by omega) (by omega)]
    by_cases h : (l.getD i (0, 0, 0, 0, 0, 0)).1 = id
    · rw [dcT h]
      rfl
    · rw [dcF h]
      simp only [cond_false]
      cases (l.drop (i + 1)).findIdx? (fun c => decide (c.1 = id)) with
      | none => rfl
      | some j =>
        simp only [Option.map_some]
        rw [show i + 1 + j = i + (j + 1) by omega]
theorem ref06_Change_spec (l : List GContact) (id rate : Int) (k : Nat) (hs : l.length ≤ 1000000000) (hk : l.length < k) : rf06_Change k (l, id, rate) = some (chgC l id rate) := by
  unfold rf06_Change chgC
  have := ref06_Change_L0_spec id rate l (by omega) l.length 0 k (by omega) hk
  rw [Int.natCast_zero, List.drop_zero] at this
  simp only [ref06_Copy_spec l k hs, Option.bind_some, this]
  by_cases h1 : rate < 1
  · simp [h1]
  · by_cases h2 : 2147483647 < rate
    · simp [h1, h2]
    · rw [if_neg (by omega), dcF h1, dcF h2]
      simp only [cond_false]
      cases l.findIdx? (fun c => decide (c.1 = id)) with
      | none => rfl
      | some j => simp only [Option.bind_some, Nat.zero_add]
def lessC (a b : GContact) : Bool := if a.2.1 ≠ b.2.1 then decide (a.2.1 < b.2.1) else if a.2.2.1 ≠ b.2.2.1 then decide (a.2.2.1 < b.2.2.1) else if a.2.2.2.1 ≠ b.2.2.2.1 then decide (a.2.2.2.1 < b.2.2.2.1) else decide (a.1 < b.1)
theorem less_spec (k : Nat) (a b : GContact) : rf06_less k (a, b) = some (lessC a b) := by
  unfold rf06_less lessC
  by_cases h1 : a.2.1 = b.2.1 <;> by_cases h2 : a.2.2.1 = b.2.2.1 <;> by_cases h3 : a.2.2.2.1 = b.2.2.2.1 <;> by_cases h4 : a.2.1 < b.2.1 <;> by_cases h5 : a.2.2.1 < b.2.2.1 <;> by_cases h6 : a.2.2.2.1 < b.2.2.2.1 <;> by_cases h7 : a.1 < b.1 <;> simp [h1, h2, h3, h4, h5, h6, h7]
theorem cmpI_cases (a b : Int) : (a < b ∧ cmpI a b = -1) ∨ (a = b ∧ cmpI a b = 0) ∨ (b < a ∧ cmpI a b = 1) := by
  unfold cmpI
  by_cases h1 : a < b
  · exact .inl ⟨h1, if_pos h1⟩
  · by_cases h2 : b < a
    · exact .inr (.inr ⟨h2, by rw [if_neg h1, if_pos h2]⟩)
    · exact .inr (.inl ⟨by omega, by rw [if_neg h1, if_neg h2]⟩)
theorem less_cmp (a b : GContact) : lessC a b = decide (cmpC a b < 0) := by
  unfold lessC cmpC
  rcases cmpI_cases a.2.1 b.2.1 with ⟨h1, e1⟩ | ⟨h1, e1⟩ | ⟨h1, e1⟩
  · rw [e1, if_pos (by omega), dcT h1]; rfl
  · rw [e1, if_neg (by simpa using h1)]
    rcases cmpI_cases a.2.2.1 b.2.2.1 with ⟨h2, e2⟩ | ⟨h2, e2⟩ | ⟨h2, e2⟩
    · rw [e2, if_pos (by omega), dcT h2]; rfl
    · rw [e2, if_neg (by simpa using h2)]
      rcases cmpI_cases a.2.2.2.1 b.2.2.2.1 with ⟨h3, e3⟩ | ⟨h3, e3⟩ | ⟨h3, e3⟩
      · rw [e3, if_pos (by omega), dcT h3]; rfl
      · rw [e3, if_neg (by simpa using h3)]
        rcases cmpI_cases a.1 b.1 with ⟨h4, e4⟩ | ⟨h4, e4⟩ | ⟨h4, e4⟩
        · rw [e4, dcT h4]; rfl
        · rw [e4, dcF (by omega)]; rfl
        · rw [e4, dcF (by omega)]; rfl
      · rw [e3, if_pos (by omega), dcF (by omega)]; rfl
    · rw [e2, if_pos (by omega), dcF (by omega)]; rfl
  · rw [e1, if_pos (by omega), dcF (by omega)]; rfl
theorem cmp_neg (a b : GContact) : cmpC b a = - cmpC a b := by
  unfold cmpC cmpI
  repeat' split <;> omega
def leftC (now : Int) (l : List GContact) : List GContact := l.filter fun c => decide (now < c.2.2.2.2.1)
def goneC (now : Int) (l : List GContact) : List Int := (l.filter fun c => !decide (now < c.2.2.2.2.1)).map fun c => c.1
theorem leftC_step {now : Int} {l : List GContact} {i : Nat} (d : GContact) (h : i < l.length) : leftC now (l.drop i) = (bif decide (now < (l.getD i d).2.2.2.2.1) then [l.getD i d] else []) ++ leftC now (l.drop (i + 1)) := by
  unfold leftC
  exact drop_filter d h
theorem goneC_step {now : Int} {l : List GContact} {i : Nat} (d : GContact) (h : i < l.length) : goneC now (l.drop i) = (bif decide (now < (l.getD i d).2.2.2.2.1) then [] else [(l.getD i d).1]) ++ goneC now (l.drop (i + 1)) := by
  unfold goneC
  rw [drop_filter d h, List.map_append]
  cases decide (now < (l.getD i d).2.2.2.2.1) <;> rfl
theorem leftC_len (now : Int) (l : List GContact) : (leftC now l).length ≤ l.length := List.length_filter_le _ _
theorem goneC_len (now : Int) (l : List GContact) : (goneC now l).length ≤ l.length := by unfold goneC; rw [List.length_map]; exact List.length_filter_le _ _
theorem Expire_L0_spec (l : List GContact) (now : Int) (hs : l.length ≤ 1000000000) : ∀ (n i k : Nat) (a : List GContact) (g : List Int), l.length - i = n → n < k → a.length ≤ i → g.length ≤ i → i ≤ l.length → contacts_Expire_L0 k (now, a, g, l, Int.ofNat l.length, (i : Int)) = some (.inl (a ++ leftC now (l.drop i), g ++ goneC now (l.drop i)))
  | 0, i, k + 1, a, g, hn, hk, ha, hg, hi => by
    rw [List.drop_eq_nil_of_le (by omega)]
    simp only [contacts_Expire_L0]
    rw [i_lt, dcF (by omega)]
    simp [leftC, goneC]
  | n + 1, i, k + 1, a, g, hn, hk, ha, hg, _ => by
    have hi : i < l.length := by omega
    rw [leftC_step (0, 0, 0, 0, 0, 0) hi, goneC_step (0, 0, 0, 0, 0, 0) hi]
    simp only [contacts_Expire_L0]
    rw [i_lt, dcT hi, dcT (Int.natCast_nonneg i), Int.toNat_natCast]
    simp only [cond_true, w64_succ (by omega : i < 4611686018427387904)]
    generalize l.getD i (0, 0, 0, 0, 0, 0) = x
    have h1 : decide ((List.length a + List.length [x]) * 48 ≤ 140737488355328) = true := dcT (by simp only [List.length_cons, List.length_nil]; omega)
    have h2 : decide ((List.length g + List.length [x.1]) * 8 ≤ 140737488355328) = true := dcT (by simp only [List.length_cons, List.length_nil]; omega)
    rw [h1, h2]
    by_cases h : now < x.2.2.2.2.1
    · rw [dcT h]
      simp only [cond_true, Expire_L0_spec l now hs n (i + 1) k (a ++ [x]) g (by omega) (by omega) (by simp; omega) (by omega) (by omega)]
      simp
    · rw [dcF h]
      simp only [cond_true, cond_false, Expire_L0_spec l now hs n (i + 1) k a (g ++ [x.1]) (by omega) (by omega) (by omega) (by simp; omega) (by omega)]
      simp
theorem contacts_Expire_spec (l : List GContact) (now : Int) (k : Nat) (hs : l.length ≤ 1000000000) (hk : l.length < k) : contacts_Expire k (l, now) = some (leftC now l, sorted (goneC now l)) := by
  unfold contacts_Expire
  have := Expire_L0_spec l now hs l.length 0 k [] [] (by omega) hk (by simp) (by simp) (by omega)
  rw [Int.natCast_zero, List.drop_zero, List.nil_append, List.nil_append] at this
  simp only [this, Option.bind_some, slices_Sort, sortF]
  rw [dcT (by have := goneC_len now l; omega)]
  rfl
theorem insert_L1 (l o : List GContact) (now i : Int) (x : Int) : ∀ (n : Nat) (P Q : List Int) (k : Nat), P.length = n → n < k → P.length + Q.length < 1000000000 → (P ++ Q).Pairwise (· ≤ ·) → (∀ q ∈ Q, x < q) →
    ∃ R, rf06_Expire_L1 k (l, now, o, P ++ x :: Q, i, (P.length : Int)) = some (.inl (l, now, o, R, i)) ∧ R.Pairwise (· ≤ ·) ∧ R.Perm (P ++ x :: Q)
  | 0, P, Q, k + 1, hP, hk, hb, hs, hq => by
    have : P = [] := List.eq_nil_of_length_eq_zero hP
    subst this
    refine ⟨x :: Q, ?_, ?_, List.Perm.refl _⟩
    · simp only [rf06_Expire_L1]
      rfl
    · rw [List.pairwise_cons]
      exact ⟨fun q h => by have := hq q h; omega, by simpa using hs⟩
  | n + 1, P, Q, k + 1, hP, hk, hb, hs, hq => by
    obtain ⟨P1, p, rfl⟩ : ∃ P1 p, P = P1 ++ [p] := by
      rcases List.eq_nil_or_concat P with rfl | ⟨P1, p, h⟩
      · simp at hP
      · exact ⟨P1, p, by simpa using h⟩
    have hn : P1.length = n := by simpa using hP
    have hPl : (P1 ++ [p]).length = n + 1 := hP
    have hlen : List.length (P1 ++ [p] ++ x :: Q) = n + 2 + Q.length := by simp [hn]; omega
    have e1 : w64 (((n + 1 : Nat) : Int) - 1) = (n : Int) := by
      rw [w64_id (by omega) (by simp at hb; omega)]; omega
    have g1 : List.getD (P1 ++ [p] ++ x :: Q) (n + 1) 0 = x := by rw [List.getD_eq_getElem?_getD, List.getElem?_append_right (by omega), hPl]; simp
    have g0 : List.getD (P1 ++ [p] ++ x :: Q) n 0 = p := by
      rw [List.getD_eq_getElem?_getD, List.append_assoc, List.getElem?_append_right (by omega), hn]; simp
    have hset : List.set (List.set (P1 ++ [p] ++ x :: Q) n x) (n + 1) p = P1 ++ x :: p :: Q := by
      rw [List.append_assoc, List.set_append_right _ _ (by omega), List.set_append_right _ _ (by omega), hn]
      simp
    have hA : decide ((0 : Int) ≤ (n : Int)) = true := dcT (Int.natCast_nonneg n)
    have hB : decide ((n : Int) < Int.ofNat (n + 2 + Q.length)) = true := by rw [i_lt]; exact dcT (by omega)
    have hC : decide ((0 : Int) ≤ ((n + 1 : Nat) : Int)) = true := dcT (Int.natCast_nonneg _)
    have hD : decide (((n + 1 : Nat) : Int) < Int.ofNat (n + 2 + Q.length)) = true := by rw [i_lt]; exact dcT (by omega)
    have hE : decide ((0 : Int) < ((n + 1 : Nat) : Int)) = true := dcT (by omega)
    simp only [rf06_Expire_L1, hPl]
    rw [e1, Int.toNat_natCast, Int.toNat_natCast, g0, g1]
    simp only [List.length_set, hlen, hA, hB, hC, hD, hE, cond_true, hset]
    by_cases h : x < p
    · rw [dcT h]
      have hs' : (P1 ++ p :: Q).Pairwise (· ≤ ·) := by simpa using hs
      obtain ⟨R, r1, r2, r3⟩ := insert_L1 l o now i x n P1 (p :: Q) k hn (by omega) (by simp at hb ⊢; omega) hs' (fun q hq' => by
        rcases List.mem_cons.1 hq' with rfl | hq'
        · exact h
        · exact hq q hq')
      refine ⟨R, ?_, r2, r3.trans ?_⟩
      · rw [hn] at r1
        simpa only [cond_true] using r1
      · rw [List.append_assoc]
        exact List.Perm.append_left P1 (List.Perm.swap p x Q)
    · rw [dcF h]
      refine ⟨P1 ++ [p] ++ x :: Q, rfl, ?_, List.Perm.refl _⟩
      rw [List.pairwise_append] at hs ⊢
      obtain ⟨h1, h2, h3⟩ := hs
      refine ⟨h1, List.pairwise_cons.2 ⟨fun q hq' => by have := hq q hq'; omega, h2⟩, fun a ha b hb' => ?_⟩
      rcases List.mem_cons.1 hb' with rfl | hb'
      · have hap : a ≤ p := by
          rcases List.mem_append.1 ha with ha' | ha'
          · rw [List.pairwise_append] at h1
            exact h1.2.2 a ha' p (by simp)
          · simp at ha'; omega
        omega
      · exact h3 a ha b hb'
theorem ref06_Expire_L0_spec (l : List GContact) (now : Int) (hs : l.length ≤ 100000000) : ∀ (n i k : Nat) (a : List GContact) (g : List Int), l.length - i = n → n + l.length + 1 < k → a.length ≤ i → g.length ≤ i → i ≤ l.length → g.Pairwise (· ≤ ·) →
    ∃ G, rf06_Expire_L0 k (l, now, a, g, (i : Int)) = some (.inl (a ++ leftC now (l.drop i), G)) ∧ G.Pairwise (· ≤ ·) ∧ G.Perm (g ++ goneC now (l.drop i))
  | 0, i, k + 1, a, g, hn, hk, ha, hg, hi, hp => by
    rw [List.drop_eq_nil_of_le (by omega)]
    refine ⟨g, ?_, hp, by simp [goneC]⟩
    simp only [rf06_Expire_L0]
    rw [i_lt, dcF (by omega)]
    simp [leftC]
  | n + 1, i, k + 1, a, g, hn, hk, ha, hg, _, hp => by
    have hi : i < l.length := by omega
    rw [leftC_step (0, 0, 0, 0, 0, 0) hi, goneC_step (0, 0, 0, 0, 0, 0) hi]
    simp only [rf06_Expire_L0]
    rw [i_lt, dcT hi, dcT (Int.natCast_nonneg i), Int.toNat_natCast]
    simp only [cond_true, w64_succ (by omega : i < 4611686018427387904)]
    generalize l.getD i (0, 0, 0, 0, 0, 0) = x
    have h1 : decide ((List.length a + List.length [x]) * 48 ≤ 140737488355328) = true := dcT (by simp only [List.length_cons, List.length_nil]; omega)
    have h2 : decide ((List.length g + List.length [x.1]) * 8 ≤ 140737488355328) = true := dcT (by simp only [List.length_cons, List.length_nil]; omega)
    rw [h1, h2]
    by_cases h : now < x.2.2.2.2.1
    · rw [dcT h]
      obtain ⟨G, r1, r2, r3⟩ := ref06_Expire_L0_spec l now hs n (i + 1) k (a ++ [x]) g (by omega) (by omega) (by simp; omega) (by omega) (by omega) hp
      exact ⟨G, by simpa only [cond_true, List.append_assoc] using r1, r2, by simpa using r3⟩
    · rw [dcF h]
      obtain ⟨R, q1, q2, q3⟩ := insert_L1 l a now (i : Int) x.1 g.length g [] k rfl (by omega) (by simp; omega) (by simpa using hp) (fun q hq => by cases hq)
      have hR : R.length ≤ i + 1 := by rw [q3.length_eq]; simp; omega
      obtain ⟨G, r1, r2, r3⟩ := ref06_Expire_L0_spec l now hs n (i + 1) k a R (by omega) (by omega) (by omega) hR (by omega) q2
      refine ⟨G, ?_, r2, ?_⟩
      · have q1' : rf06_Expire_L1 k (l, now, a, g ++ [x.1], (i : Int), Int.ofNat g.length) = some (.inl (l, now, a, R, (i : Int))) := q1
        simp only [cond_true, cond_false, q1', Option.bind_some, w64_succ (by omega : i < 4611686018427387904), r1]
        simp
      · refine r3.trans ?_
        simp only [cond_false]
        rw [← List.append_assoc]
        exact q3.append_right _
theorem sorted_unique {a b : List Int} (h : a.Perm b) (ha : a.Pairwise (· ≤ ·)) (hb : b.Pairwise (· ≤ ·)) : a = b := by
  refine List.Perm.eq_of_pairwise (fun x y _ _ h1 h2 => ?_) ha hb h
  omega
theorem sorted_pw (l : List Int) : (sorted l).Pairwise (· ≤ ·) := sorted_pw0 l
theorem sorted_perm (l : List Int) : (sorted l).Perm l := sorted_perm0 l
theorem ref06_Expire_spec (l : List GContact) (now : Int) (k : Nat) (hs : l.length ≤ 100000000) (hk : 2 * l.length + 1 < k) : rf06_Expire k (l, now) = some (leftC now l, sorted (goneC now l)) := by
  unfold rf06_Expire
  obtain ⟨G, r1, r2, r3⟩ := ref06_Expire_L0_spec l now hs l.length 0 k [] [] (by omega) (by omega) (by simp) (by simp) (by omega) List.Pairwise.nil
  rw [Int.natCast_zero, List.drop_zero, List.nil_append] at r1
  rw [List.drop_zero, List.nil_append] at r3
  have : G = sorted (goneC now l) := sorted_unique (r3.trans (sorted_perm _).symm) r2 (sorted_pw _)
  subst this
  simp only [r1, Option.bind_some]
theorem Compare_spec (k : Nat) (a b : GContact) (h : 5 ≤ k) : contacts_Compare k (a, b) = some (cmpC a b) := by
  obtain ⟨k', rfl⟩ : ∃ k', k = k' + 5 := ⟨k - 5, by omega⟩
  exact contacts_Compare_spec k' a b
def rngC (c : GContact) : Prop := (-9223372036854775808 ≤ c.2.2.2.1 ∧ c.2.2.2.1 ≤ 9223372036854775807) ∧ (-9223372036854775808 ≤ c.2.2.2.2.1 ∧ c.2.2.2.2.1 ≤ 9223372036854775807)
abbrev z28 : GContact := (0, 0, 0, 0, 0, 0)
def okAt (l : List GContact) (i : Nat) : Bool := conB (l.getD i z28) && (!decide ((l.getD i z28).1 ∈ (l.take i).map (·.1)) && (bif decide (0 < i) then decide (cmpC (l.getD (i - 1) z28) (l.getD i z28) < 0) && !ovB (l.getD (i - 1) z28) (l.getD i z28) else true))
def chkR (l : List GContact) : Nat → Nat → Bool
  | 0, _ => true
  | n + 1, i => okAt l i && chkR l n (i + 1)
theorem has_put (x n : Int) (l : List Int) : hasN x (putN n l) = (decide (x = n) || hasN x l) := by
  unfold putN
  rw [Bool.eq_iff_iff]
  cases h : hasN n l with
  | true =>
    simp only [cond_true, Bool.or_eq_true, decide_eq_true_eq]
    constructor
    · exact .inr
    · rintro (rfl | h')
      · exact h
      · exact h'
  | false =>
    simp only [cond_false, Bool.or_eq_true, decide_eq_true_eq]
    rw [hasN_iff, hasN_iff, List.mem_append, List.mem_singleton]
    exact Or.comm
theorem mem_take_succ {l : List GContact} {i : Nat} (h : i < l.length) (x : Int) : decide (x ∈ (l.take (i + 1)).map (·.1)) = (decide (x = (l.getD i z28).1) || decide (x ∈ (l.take i).map (·.1))) := by
  rw [List.take_add_one, List.getElem?_eq_getElem h, List.getD_eq_getElem?_getD, List.getElem?_eq_getElem h, Bool.eq_iff_iff]
  simp only [Option.toList, List.map_append, List.mem_append, List.map_cons, List.map_nil, List.mem_singleton, Option.getD_some, Bool.or_eq_true, decide_eq_true_eq]
  exact Or.comm
theorem Right_L0_spec (l : List GContact) (hs : l.length ≤ 1000000000) (hr : ∀ c ∈ l, rngC c) : ∀ (n i k : Nat) (had : List Int), l.length - i = n → n + 5 < k → i ≤ l.length → (∀ x, hasN x had = decide (x ∈ (l.take i).map (·.1))) → contacts_Right_L0 k (l, had, l, Int.ofNat l.length, (i : Int)) = some (bif chkR l n i then .inl l else .inr false)
  | 0, i, k + 1, had, hn, hk, hi, hh => by
    simp only [contacts_Right_L0]
    rw [i_lt, dcF (by omega)]
    rfl
  | n + 1, i, k + 1, had, hn, hk, _, hh => by
    have hi : i < l.length := by omega
    have hx : l.getD i z28 ∈ l := by rw [List.getD_eq_getElem?_getD, List.getElem?_eq_getElem hi]; exact List.getElem_mem hi
    obtain ⟨r1, r2⟩ := hr _ hx
    have ih := Right_L0_spec l hs hr n (i + 1) k (putN (l.getD i z28).1 had) (by omega) (by omega) (by omega) (fun x => by rw [has_put, hh, mem_take_succ hi])
    have hcmp : ∀ a b, contacts_Compare k (a, b) = some (cmpC a b) := fun a b => Compare_spec k a b (by omega)
    simp only [contacts_Right_L0, chkR, okAt]
    rw [i_lt, dcT hi, dcT (Int.natCast_nonneg i), Int.toNat_natCast]
    simp only [cond_true, check_Contact_spec _ _ r1 r2, Option.bind_some, w64_succ (by omega : i < 4611686018427387904), hh, ih, hcmp, contacts_overlap_spec]
    cases conB (l.getD i z28) with
    | false => rfl
    | true =>
      cases decide ((l.getD i z28).1 ∈ (l.take i).map (·.1)) with
      | true => rfl
      | false =>
        by_cases h0 : 0 < i
        · have e1 : w64 ((i : Int) - 1) = ((i - 1 : Nat) : Int) := by rw [w64_id (by omega) (by omega)]; omega
          have e2 : decide ((0 : Int) < (i : Int)) = true := dcT (by omega)
          rw [e2, e1, dcT (Int.natCast_nonneg (i - 1)), Int.toNat_natCast, i_lt, dcT (by omega : i - 1 < l.length), dcT h0]
          generalize cmpC (l.getD (i - 1) z28) (l.getD i z28) = c
          generalize ovB (l.getD (i - 1) z28) (l.getD i z28) = v
          by_cases hc : 0 ≤ c
          · rw [dcT hc, dcF (by omega : ¬ c < 0)]
            cases v <;> rfl
          · rw [dcF hc, dcT (by omega : c < 0)]
            cases v
            · simp
            · rfl
        · have e2 : decide ((0 : Int) < (i : Int)) = false := dcF (by omega)
          rw [e2, dcF h0]
          simp
theorem contacts_Right_spec0 (l : List GContact) (k : Nat) (hs : l.length ≤ 1000000000) (hr : ∀ c ∈ l, rngC c) (hk : l.length + 5 < k) : contacts_Right k l = some (chkR l l.length 0 && decide (l.length ≤ 4096)) := by
  unfold contacts_Right
  have := Right_L0_spec l hs hr l.length 0 k [] (by omega) hk (by omega) (fun x => by simp [hasN])
  rw [Int.natCast_zero] at this
  simp only [this, Option.bind_some]
  cases chkR l l.length 0 with
  | false => rfl
  | true =>
    simp only [cond_true, Bool.true_and]
    by_cases h : l.length ≤ 4096
    · rw [dcT h, dcT (show Int.ofNat l.length ≤ 4096 from by have : Int.ofNat l.length = (l.length : Int) := rfl; omega)]; rfl
    · rw [dcF h, dcF (show ¬ Int.ofNat l.length ≤ 4096 from by have : Int.ofNat l.length = (l.length : Int) := rfl; omega)]; rfl
theorem ref03_Node_spec (k : Nat) (n : Int) : rf03_Node k n = some (nodeB n) := by
  unfold rf03_Node nodeB
  by_cases h1 : 1 ≤ n <;> by_cases h2 : n ≤ 255 <;> simp [h1, h2]
theorem ref03_pair_spec (k : Nat) (a b s e : Int) : rf03_pair k (a, b, s, e) = some (wayB a b && spanB s e) := by
  unfold rf03_pair wayB spanB
  simp only [ref03_Node_spec, Option.bind_some]
  cases nodeB a <;> cases nodeB b <;> by_cases h : a = b <;> by_cases h1 : 0 ≤ s <;> by_cases h2 : s < e <;> by_cases h3 : e ≤ 2147483647 <;> simp [h, h1, h2, h3]
theorem ref03_Contact_spec (k : Nat) (c : GContact) : rf03_Contact k c = some (conB c) := by
  unfold rf03_Contact conB
  simp only [ref03_pair_spec, Option.bind_some]
  cases wayB c.2.1 c.2.2.1 <;> cases spanB c.2.2.2.1 c.2.2.2.2.1 <;> by_cases h1 : 1 ≤ c.1 <;> by_cases h2 : c.1 ≤ 1048576 <;> by_cases h3 : 1 ≤ c.2.2.2.2.2 <;> by_cases h4 : c.2.2.2.2.2 ≤ 2147483647 <;> simp [h1, h2, h3, h4]
def ovR (a b : GContact) : Bool := decide (a.2.1 = b.2.1) && (decide (a.2.2.1 = b.2.2.1) && (decide (a.2.2.2.1 < b.2.2.2.2.1) && decide (b.2.2.2.1 < a.2.2.2.2.1)))
theorem ref06_overlap_spec (k : Nat) (a b : GContact) : rf06_overlap k (a, b) = some (ovR a b) := by
  unfold rf06_overlap ovR
  by_cases h1 : a.2.1 = b.2.1 <;> by_cases h2 : a.2.2.1 = b.2.2.1 <;> by_cases h3 : a.2.2.2.1 < b.2.2.2.2.1 <;> by_cases h4 : b.2.2.2.1 < a.2.2.2.2.1 <;> simp [h1, h2, h3, h4]
def chkPair (l : List GContact) (i : Nat) : Nat → Nat → Bool
  | 0, _ => true
  | n + 1, j => !decide ((l.getD j z28).1 = (l.getD i z28).1) && (!ovR (l.getD j z28) (l.getD i z28) && chkPair l i n (j + 1))
theorem ref06_Right_L1_spec (l : List GContact) (hs : l.length ≤ 1000000000) (i : Nat) (hi : i < l.length) : ∀ (n j k : Nat), i - j = n → n < k → rf06_Right_L1 k (l, (i : Int), (j : Int)) = some (bif chkPair l i n j then .inl (l, (i : Int)) else .inr false)
  | 0, j, k + 1, hn, hk => by
    simp only [rf06_Right_L1]
    rw [dcF (by omega)]
    rfl
  | n + 1, j, k + 1, hn, hk => by
    have ih := ref06_Right_L1_spec l hs i hi n (j + 1) k (by omega) (by omega)
    simp only [rf06_Right_L1, chkPair]
    rw [dcT (by omega : (j : Int) < (i : Int)), dcT (Int.natCast_nonneg j), i_lt, dcT (by omega : j < l.length), dcT (Int.natCast_nonneg i), i_lt, dcT hi, Int.toNat_natCast, Int.toNat_natCast]
    simp only [cond_true, ref06_overlap_spec, Option.bind_some, w64_succ (by omega : j < 4611686018427387904), ih]
    cases decide ((l.getD j z28).1 = (l.getD i z28).1) <;> cases ovR (l.getD j z28) (l.getD i z28) <;> simp
def okR (l : List GContact) (i : Nat) : Bool := conB (l.getD i z28) && ((bif decide (0 < i) then lessC (l.getD (i - 1) z28) (l.getD i z28) else true) && chkPair l i i 0)
def chkS (l : List GContact) : Nat → Nat → Bool
  | 0, _ => true
  | n + 1, i => okR l i && chkS l n (i + 1)
theorem ref06_Right_L0_spec (l : List GContact) (hs : l.length ≤ 1000000000) : ∀ (n i k : Nat), l.length - i = n → n + l.length < k → i ≤ l.length → rf06_Right_L0 k (l, (i : Int)) = some (bif chkS l n i then .inl l else .inr false)
  | 0, i, k + 1, hn, hk, hi => by
    simp only [rf06_Right_L0]
    rw [i_lt, dcF (by omega)]
    rfl
  | n + 1, i, k + 1, hn, hk, _ => by
    have hi : i < l.length := by omega
    have ih := ref06_Right_L0_spec l hs n (i + 1) k (by omega) (by omega) (by omega)
    have h1 := ref06_Right_L1_spec l hs i hi i 0 k (by omega) (by omega)
    rw [Int.natCast_zero] at h1
    simp only [rf06_Right_L0, chkS, okR]
    rw [i_lt, dcT hi, dcT (Int.natCast_nonneg i), Int.toNat_natCast]
    simp only [cond_true, ref03_Contact_spec, Option.bind_some, less_spec, h1]
    cases conB (l.getD i z28) with
    | false => rfl
    | true =>
      by_cases h0 : 0 < i
      · have e1 : w64 ((i : Int) - 1) = ((i - 1 : Nat) : Int) := by rw [w64_id (by omega) (by omega)]; omega
        have e2 : decide ((0 : Int) < (i : Int)) = true := dcT (by omega)
        rw [e2, e1, dcT (Int.natCast_nonneg (i - 1)), Int.toNat_natCast, i_lt, dcT (by omega : i - 1 < l.length), dcT h0]
        cases lessC (l.getD (i - 1) z28) (l.getD i z28) <;> cases chkPair l i i 0 <;> simp only [cond_true, cond_false, Bool.true_and, Bool.false_and, w64_succ (by omega : i < 4611686018427387904), ih]
      · have e2 : decide ((0 : Int) < (i : Int)) = false := dcF (by omega)
        rw [e2, dcF h0]
        cases chkPair l i i 0 <;> simp only [cond_true, cond_false, Bool.true_and, Bool.false_and, w64_succ (by omega : i < 4611686018427387904), ih]
theorem ref06_Right_spec0 (l : List GContact) (k : Nat) (hs : l.length ≤ 1000000000) (hk : 2 * l.length < k) : rf06_Right k l = some (chkS l l.length 0 && decide (l.length ≤ 4096)) := by
  unfold rf06_Right
  have := ref06_Right_L0_spec l hs l.length 0 k (by omega) (by omega) (by omega)
  rw [Int.natCast_zero] at this
  simp only [this, Option.bind_some]
  cases chkS l l.length 0 with
  | false => rfl
  | true =>
    simp only [cond_true, Bool.true_and]
    by_cases h : l.length ≤ 4096
    · rw [dcT h, dcT (show Int.ofNat l.length ≤ 4096 from by have : Int.ofNat l.length = (l.length : Int) := rfl; omega)]; rfl
    · rw [dcF h, dcF (show ¬ Int.ofNat l.length ≤ 4096 from by have : Int.ofNat l.length = (l.length : Int) := rfl; omega)]; rfl
theorem chkR_all (l : List GContact) : ∀ n i, chkR l n i = true ↔ ∀ q, i ≤ q → q < i + n → okAt l q = true
  | 0, i => by simp [chkR]; omega
  | n + 1, i => by
    simp only [chkR, Bool.and_eq_true, chkR_all l n (i + 1)]
    constructor
    · rintro ⟨h1, h2⟩ q hq hq'
      rcases Nat.eq_or_lt_of_le hq with rfl | h
      · exact h1
      · exact h2 q h (by omega)
    · intro h
      exact ⟨h i (Nat.le_refl i) (by omega), fun q hq hq' => h q (by omega) (by omega)⟩
theorem chkS_all (l : List GContact) : ∀ n i, chkS l n i = true ↔ ∀ q, i ≤ q → q < i + n → okR l q = true
  | 0, i => by simp [chkS]; omega
  | n + 1, i => by
    simp only [chkS, Bool.and_eq_true, chkS_all l n (i + 1)]
    constructor
    · rintro ⟨h1, h2⟩ q hq hq'
      rcases Nat.eq_or_lt_of_le hq with rfl | h
      · exact h1
      · exact h2 q h (by omega)
    · intro h
      exact ⟨h i (Nat.le_refl i) (by omega), fun q hq hq' => h q (by omega) (by omega)⟩
theorem chkPair_all (l : List GContact) (i : Nat) : ∀ n j, chkPair l i n j = true ↔ ∀ q, j ≤ q → q < j + n → (l.getD q z28).1 ≠ (l.getD i z28).1 ∧ ovR (l.getD q z28) (l.getD i z28) = false
  | 0, j => by simp [chkPair]; omega
  | n + 1, j => by
    simp only [chkPair, Bool.and_eq_true, chkPair_all l i n (j + 1)]
    constructor
    · rintro ⟨h1, h2, h3⟩ q hq hq'
      rcases Nat.eq_or_lt_of_le hq with rfl | h
      · exact ⟨by simpa using h1, by simpa using h2⟩
      · exact h3 q h (by omega)
    · intro h
      obtain ⟨h1, h2⟩ := h j (Nat.le_refl j) (by omega)
      exact ⟨by simpa using h1, by simpa using h2, fun q hq hq' => h q (by omega) (by omega)⟩
theorem cmp_lt_iff (a b : GContact) : cmpC a b < 0 ↔ a.2.1 < b.2.1 ∨ (a.2.1 = b.2.1 ∧ (a.2.2.1 < b.2.2.1 ∨ (a.2.2.1 = b.2.2.1 ∧ (a.2.2.2.1 < b.2.2.2.1 ∨ (a.2.2.2.1 = b.2.2.2.1 ∧ a.1 < b.1))))) := by
  unfold cmpC
  rcases cmpI_cases a.2.1 b.2.1 with ⟨h1, e1⟩ | ⟨h1, e1⟩ | ⟨h1, e1⟩ <;> rcases cmpI_cases a.2.2.1 b.2.2.1 with ⟨h2, e2⟩ | ⟨h2, e2⟩ | ⟨h2, e2⟩ <;> rcases cmpI_cases a.2.2.2.1 b.2.2.2.1 with ⟨h3, e3⟩ | ⟨h3, e3⟩ | ⟨h3, e3⟩ <;> rcases cmpI_cases a.1 b.1 with ⟨h4, e4⟩ | ⟨h4, e4⟩ | ⟨h4, e4⟩ <;> rw [e1, e2, e3, e4] <;> simp <;> omega
theorem cmp_trans {a b c : GContact} (h1 : cmpC a b < 0) (h2 : cmpC b c < 0) : cmpC a c < 0 := by
  rw [cmp_lt_iff] at *
  omega
theorem con_span {c : GContact} (h : conB c = true) : c.2.2.2.1 < c.2.2.2.2.1 := by
  unfold conB spanB at h
  simp only [Bool.and_eq_true, decide_eq_true_eq] at h
  omega
theorem ov_iff {a b : GContact} (ha : conB a = true) (hb : conB b = true) : ovB a b = ovR a b := by
  have h1 := con_span ha
  have h2 := con_span hb
  unfold ovB ovR
  rw [Bool.eq_iff_iff]
  simp only [Bool.and_eq_true, decide_eq_true_eq]
  omega
theorem ovR_false {a b : GContact} : ovR a b = false ↔ ¬ (a.2.1 = b.2.1 ∧ a.2.2.1 = b.2.2.1 ∧ a.2.2.2.1 < b.2.2.2.2.1 ∧ b.2.2.2.1 < a.2.2.2.2.1) := by
  unfold ovR
  rw [← Bool.not_eq_true]
  simp only [Bool.and_eq_true, decide_eq_true_eq]
theorem mem_take_ids {l : List GContact} {i : Nat} (hi : i ≤ l.length) (x : Int) : x ∈ (l.take i).map (·.1) ↔ ∃ j, j < i ∧ (l.getD j z28).1 = x := by
  rw [List.mem_map]
  constructor
  · rintro ⟨c, hc, rfl⟩
    obtain ⟨q, hq, rfl⟩ := List.mem_iff_getElem.1 hc
    have hq' : q < i := by rw [List.length_take] at hq; omega
    exact ⟨q, hq', by rw [List.getD_eq_getElem?_getD, List.getElem?_eq_getElem (by omega), List.getElem_take]; rfl⟩
  · rintro ⟨j, hj, rfl⟩
    refine ⟨l.getD j z28, ?_, rfl⟩
    rw [List.getD_eq_getElem?_getD, List.getElem?_eq_getElem (by omega)]
    exact List.mem_iff_getElem.2 ⟨j, by rw [List.length_take]; omega, by rw [List.getElem_take]; rfl⟩
theorem right_pairs {l : List GContact} {n : Nat} (hn : n ≤ l.length) (h : ∀ q, q < n → okAt l q = true) : ∀ i, i < n → ∀ j, j < i → cmpC (l.getD j z28) (l.getD i z28) < 0 ∧ ((l.getD j z28).2.1 = (l.getD i z28).2.1 → (l.getD j z28).2.2.1 = (l.getD i z28).2.2.1 → (l.getD j z28).2.2.2.2.1 ≤ (l.getD i z28).2.2.2.1) := by
  have hc : ∀ q, q < n → conB (l.getD q z28) = true := fun q hq => by have := h q hq; unfold okAt at this; simp only [Bool.and_eq_true] at this; exact this.1
  have hs : ∀ q, q + 1 < n → cmpC (l.getD q z28) (l.getD (q + 1) z28) < 0 ∧ ovB (l.getD q z28) (l.getD (q + 1) z28) = false := fun q hq => by
    have := h (q + 1) hq
    unfold okAt at this
    rw [dcT (by omega : 0 < q + 1)] at this
    simp only [Bool.and_eq_true, cond_true, Nat.add_sub_cancel, decide_eq_true_eq, Bool.not_eq_true'] at this
    exact this.2.2
  have step : ∀ q, q + 1 < n → (l.getD q z28).2.1 = (l.getD (q + 1) z28).2.1 → (l.getD q z28).2.2.1 = (l.getD (q + 1) z28).2.2.1 → (l.getD q z28).2.2.2.2.1 ≤ (l.getD (q + 1) z28).2.2.2.1 := fun q hq e1 e2 => by
    obtain ⟨s1, s2⟩ := hs q hq
    rw [ov_iff (hc q (by omega)) (hc (q + 1) hq), ovR_false] at s2
    rw [cmp_lt_iff] at s1
    have c1 := con_span (hc q (by omega))
    have c2 := con_span (hc (q + 1) hq)
    omega
  intro i
  induction i with
  | zero => intro _ j hj; omega
  | succ i ih =>
    intro hi j hj
    rcases Nat.eq_or_lt_of_le (Nat.lt_succ_iff.1 hj) with rfl | hj
    · exact ⟨(hs j hi).1, step j hi⟩
    · obtain ⟨i1, i2⟩ := ih (by omega) j hj
      obtain ⟨s1, _⟩ := hs i hi
      refine ⟨cmp_trans i1 s1, fun e1 e2 => ?_⟩
      rw [cmp_lt_iff] at i1 s1
      have c1 := con_span (hc i (by omega))
      have f1 : (l.getD j z28).2.1 = (l.getD i z28).2.1 := by omega
      have f2 : (l.getD j z28).2.2.1 = (l.getD i z28).2.2.1 := by omega
      have := i2 f1 f2
      omega
theorem chk_same (l : List GContact) : chkR l l.length 0 = chkS l l.length 0 := by
  rw [Bool.eq_iff_iff, chkR_all, chkS_all]
  constructor
  · intro h q _ hq
    rw [Nat.zero_add] at hq
    have h' : ∀ q, q < l.length → okAt l q = true := fun q hq => h q (Nat.zero_le q) (by omega)
    have hp := right_pairs (Nat.le_refl _) h'
    have hk := h' q hq
    unfold okAt at hk
    simp only [Bool.and_eq_true] at hk
    obtain ⟨k1, k2, k3⟩ := hk
    unfold okR
    simp only [Bool.and_eq_true]
    refine ⟨k1, ?_, (chkPair_all l q q 0).2 (fun j _ hj => ?_)⟩
    · by_cases h0 : 0 < q
      · rw [dcT h0, less_cmp]
        exact dcT (hp q hq (q - 1) (by omega)).1
      · rw [dcF h0]; rfl
    · rw [Nat.zero_add] at hj
      obtain ⟨p1, p2⟩ := hp q hq j hj
      refine ⟨fun e => ?_, ?_⟩
      · have : (l.getD q z28).1 ∈ (l.take q).map (·.1) := (mem_take_ids (by omega) _).2 ⟨j, hj, e⟩
        rw [dcT this] at k2
        cases k2
      · rw [ovR_false]
        rintro ⟨e1, e2, e3, e4⟩
        have := p2 e1 e2
        omega
  · intro h q _ hq
    rw [Nat.zero_add] at hq
    have h' : ∀ q, q < l.length → okR l q = true := fun q hq => h q (Nat.zero_le q) (by omega)
    have hc : ∀ q, q < l.length → conB (l.getD q z28) = true := fun q hq => by have := h' q hq; unfold okR at this; simp only [Bool.and_eq_true] at this; exact this.1
    have hk := h' q hq
    unfold okR at hk
    simp only [Bool.and_eq_true] at hk
    obtain ⟨k1, k2, k3⟩ := hk
    rw [chkPair_all] at k3
    unfold okAt
    simp only [Bool.and_eq_true]
    refine ⟨k1, ?_, ?_⟩
    · rw [dcF (fun hm => ?_)]
      · rfl
      · obtain ⟨j, hj, e⟩ := (mem_take_ids (by omega) _).1 hm
        exact (k3 j (Nat.zero_le j) (by omega)).1 e
    · by_cases h0 : 0 < q
      · rw [dcT h0] at k2 ⊢
        rw [less_cmp] at k2
        have := (k3 (q - 1) (Nat.zero_le _) (by omega)).2
        rw [cond_true, Bool.and_eq_true, ov_iff (hc (q - 1) (by omega)) k1, this]
        exact ⟨k2, rfl⟩
      · rw [dcF h0]; rfl
end Ex
namespace Ex
open Go
theorem mid_id {i j : Nat} (h : i + j < 4611686018427387904) : w64 (Int.fdiv (IntKind.wrap IntKind.u64 (w64 ((i : Int) + (j : Int)))) (2 ^ min (Int.toNat 1) 64)) = (((i + j) / 2 : Nat) : Int) := by
  have e1 : w64 ((i : Int) + (j : Int)) = ((i + j : Nat) : Int) := by rw [w64_id (by omega) (by omega)]; omega
  have e2 : IntKind.wrap IntKind.u64 ((i + j : Nat) : Int) = ((i + j : Nat) : Int) := by
    rw [IntKind.wrap_u64]; omega
  have e3 : (2 : Int) ^ min (Int.toNat 1) 64 = 2 := by decide
  rw [e1, e2, e3, Int.fdiv_eq_ediv_of_nonneg _ (by omega)]
  rw [w64_id (by omega) (by omega)]
  omega
theorem BS_L0_spec (l : List GContact) (t : GContact) (n : Int) (hs : l.length ≤ 1000000000) (hsort : ∀ i j, i < j → j < l.length → cmpC (l.getD i z28) (l.getD j z28) < 0) : ∀ (m i j k : Nat), j - i ≤ m → m + 5 < k → i ≤ j → j ≤ l.length → (∀ q, q < i → cmpC (l.getD q z28) t < 0) → (∀ q, j ≤ q → q < l.length → 0 ≤ cmpC (l.getD q z28) t) →
    ∃ r, r ≤ l.length ∧ (∀ q, q < r → cmpC (l.getD q z28) t < 0) ∧ (∀ q, r ≤ q → q < l.length → 0 ≤ cmpC (l.getD q z28) t) ∧ BinarySearchFunc_C_L0 k (l, (), t, n, (i : Int), (j : Int)) = some (.inl (l, (), t, n, (r : Int)))
  | m, i, j, k + 1, hm, hk, hij, hj, h1, h2 => by
    by_cases hlt : i < j
    · have hh : (i + j) / 2 < j ∧ i ≤ (i + j) / 2 := by omega
      have hcmp := Compare_spec k (l.getD ((i + j) / 2) z28) t (by omega)
      obtain ⟨m', rfl⟩ : ∃ m', m = m' + 1 := ⟨m - 1, by omega⟩
      simp only [BinarySearchFunc_C_L0]
      rw [dcT (by omega : (i : Int) < (j : Int)), mid_id (by omega), dcT (Int.natCast_nonneg ((i + j) / 2)), i_lt, dcT (by omega : (i + j) / 2 < l.length), Int.toNat_natCast]
      simp only [cond_true, hcmp, Option.bind_some, w64_succ (by omega : (i + j) / 2 < 4611686018427387904)]
      by_cases hc : cmpC (l.getD ((i + j) / 2) z28) t < 0
      · rw [dcT hc]
        exact BS_L0_spec l t n hs hsort m' ((i + j) / 2 + 1) j k (by omega) (by omega) (by omega) hj (fun q hq => by
          rcases Nat.eq_or_lt_of_le (Nat.lt_succ_iff.1 hq) with rfl | hq
          · exact hc
          · exact cmp_trans (hsort q _ hq (by omega)) hc) h2
      · rw [dcF hc]
        refine BS_L0_spec l t n hs hsort m' i ((i + j) / 2) k (by omega) (by omega) (by omega) (by omega) h1 (fun q hq hql => ?_)
        rcases Nat.eq_or_lt_of_le hq with rfl | hq
        · omega
        · rcases Int.lt_or_le (cmpC (l.getD q z28) t) 0 with h | h
          · exact absurd (cmp_trans (hsort _ q hq hql) h) hc
          · exact h
    · refine ⟨i, by omega, h1, fun q hq => h2 q (by omega), ?_⟩
      simp only [BinarySearchFunc_C_L0]
      rw [dcF (by omega)]
      rfl
theorem BS_spec (l : List GContact) (t : GContact) (k : Nat) (hs : l.length ≤ 1000000000) (hsort : ∀ i j, i < j → j < l.length → cmpC (l.getD i z28) (l.getD j z28) < 0) (hk : l.length + 6 < k) :
    ∃ r, r ≤ l.length ∧ (∀ q, q < r → cmpC (l.getD q z28) t < 0) ∧ (∀ q, r ≤ q → q < l.length → 0 ≤ cmpC (l.getD q z28) t) ∧ BinarySearchFunc_C k (l, t, ()) = some ((r : Int), decide (r < l.length ∧ cmpC (l.getD r z28) t = 0)) := by
  obtain ⟨r, h1, h2, h3, h4⟩ := BS_L0_spec l t (Int.ofNat l.length) hs hsort l.length 0 l.length k (by omega) (by omega) (by omega) (Nat.le_refl _) (fun q hq => by omega) (fun q hq hq' => by omega)
  refine ⟨r, h1, h2, h3, ?_⟩
  have h4' : BinarySearchFunc_C_L0 k (l, (), t, Int.ofNat l.length, 0, Int.ofNat l.length) = some (.inl (l, (), t, Int.ofNat l.length, (r : Int))) := h4
  unfold BinarySearchFunc_C
  simp only [h4', Option.bind_some]
  have hcmp := Compare_spec k (l.getD r z28) t (by omega)
  rw [i_lt]
  by_cases hr : r < l.length
  · rw [dcT hr, dcT (Int.natCast_nonneg r), Int.toNat_natCast]
    simp only [cond_true, hcmp, Option.bind_some, hr, true_and]
    by_cases hc : cmpC (l.getD r z28) t = 0
    · rw [dcT hc]; rfl
    · rw [dcF hc]; rfl
  · rw [dcF hr, dcF (show ¬ (r < l.length ∧ cmpC (l.getD r z28) t = 0) from fun h => hr h.1)]
    rfl
theorem drop_any {p : GContact → Bool} {s : List GContact} {i : Nat} (d : GContact) (h : i < s.length) : (s.drop i).any p = (p (s.getD i d) || (s.drop (i + 1)).any p) := by
  rw [getD_drop (d := d) h, List.any_cons]
theorem ref06_Add_L0_spec (l : List GContact) (c : GContact) (r : Nat) (hs : l.length ≤ 1000000000) (hr : r ≤ l.length) (h1 : ∀ q, q < r → lessC (l.getD q z28) c = true) (h2 : ∀ q, r ≤ q → q < l.length → lessC (l.getD q z28) c = false) : ∀ (n i k : Nat), l.length - i = n → n < k → i ≤ l.length → rf06_Add_L0 k (l, c, ((min i r : Nat) : Int), (i : Int)) = some (bif (l.drop i).any (fun x => ovR x c) then .inr (l, 5) else .inl (l, c, (r : Int)))
  | 0, i, k + 1, hn, hk, hi => by
    rw [List.drop_eq_nil_of_le (by omega), Nat.min_eq_right (by omega)]
    simp only [rf06_Add_L0]
    rw [i_lt, dcF (by omega)]
    rfl
  | n + 1, i, k + 1, hn, hk, _ => by
    have hi : i < l.length := by omega
    have ih := ref06_Add_L0_spec l c r hs hr h1 h2 n (i + 1) k (by omega) (by omega) (by omega)
    rw [drop_any z28 hi]
    simp only [rf06_Add_L0]
    rw [i_lt, dcT hi, dcT (Int.natCast_nonneg i), Int.toNat_natCast]
    simp only [cond_true, ref06_overlap_spec, Option.bind_some, less_spec, ref06_Copy_spec l k hs, w64_succ (by omega : i < 4611686018427387904)]
    cases ovR (l.getD i z28) c with
    | true => rfl
    | false =>
      simp only [cond_false, Bool.false_or]
      rw [← ih]
      by_cases hq : i < r
      · rw [h1 i hq, Nat.min_eq_left (by omega : i + 1 ≤ r)]; rfl
      · rw [h2 i (by omega) hi, Nat.min_eq_right (by omega : r ≤ i), Nat.min_eq_right (by omega : r ≤ i + 1)]; rfl
def insAt (l : List GContact) (r : Nat) (c : GContact) : List GContact := l.take r ++ c :: l.drop r
theorem ref06_Add_spec (l : List GContact) (c : GContact) (r k : Nat) (hs : l.length ≤ 1000000000) (hr : r ≤ l.length) (h1 : ∀ q, q < r → lessC (l.getD q z28) c = true) (h2 : ∀ q, r ≤ q → q < l.length → lessC (l.getD q z28) c = false) (hk : l.length < k) :
    rf06_Add k (l, c) = some (if conB c = false then (l, 1) else if 4096 ≤ l.length then (l, 3) else if (findC l c.1).2 = true then (l, 4) else if l.any (fun x => ovR x c) = true then (l, 5) else (insAt l r c, 0)) := by
  unfold rf06_Add
  have h3 := ref06_Add_L0_spec l c r hs hr h1 h2 l.length 0 k (by omega) hk (by omega)
  rw [Nat.zero_min, Int.natCast_zero, List.drop_zero] at h3
  simp only [ref03_Contact_spec, Option.bind_some, ref06_Copy_spec l k hs, ref06_Find_spec l c.1 k (by omega) hk, h3]
  cases conB c with
  | false => rfl
  | true =>
    simp only [cond_true]
    rw [if_neg (by simp)]
    by_cases h4 : 4096 ≤ l.length
    · rw [if_pos h4, dcT (show (4096 : Int) ≤ Int.ofNat l.length from by have : Int.ofNat l.length = (l.length : Int) := rfl; omega)]; rfl
    · rw [if_neg h4, dcF (show ¬ (4096 : Int) ≤ Int.ofNat l.length from by have : Int.ofNat l.length = (l.length : Int) := rfl; omega)]
      simp only [cond_false]
      cases (findC l c.1).2 with
      | true => rfl
      | false =>
        simp only [cond_false]
        rw [if_neg (by simp)]
        cases l.any (fun x => ovR x c) with
        | true => rfl
        | false =>
          simp only [cond_false, Option.bind_some, Int.toNat_natCast]
          rw [if_neg (by simp), dcT (Int.natCast_nonneg r), dcT (show (r : Int) ≤ Int.ofNat l.length from by have : Int.ofNat l.length = (l.length : Int) := rfl; omega)]
          have ht : (l.take r).length = r := by rw [List.length_take]; omega
          simp only [cond_true, ref06_Copy_spec (l.take r) k (by omega), Option.bind_some]
          have e1 : decide ((List.length (l.take r) + List.length [c]) * 48 ≤ 140737488355328) = true := dcT (by simp only [List.length_cons, List.length_nil]; omega)
          have e2 : decide ((List.length (l.take r ++ [c]) + List.length (l.drop r)) * 48 ≤ 140737488355328) = true := dcT (by simp only [List.length_append, List.length_cons, List.length_nil, List.length_drop]; omega)
          rw [e1, e2]
          simp [insAt]
theorem Add1_spec (k : Nat) (x c : GContact) : contacts_Add_1 k (x, c) = some (ovB x c) := by
  unfold contacts_Add_1
  simp only [contacts_overlap_spec, Option.bind_some]
  cases ovB x c <;> rfl
theorem IndexFunc_ov_L0_spec (s : List GContact) (f : GContact) (hs : s.length < 4611686018427387904) : ∀ (n i k : Nat), s.length - i = n → n < k → IndexFunc_ov_L0 k (s, f, Int.ofNat s.length, (i : Int)) = some (firstI (fun c => ovB c f) s i)
  | 0, i, k + 1, hn, hk => by
    rw [firstI_end (by omega)]
    simp only [IndexFunc_ov_L0]
    rw [i_lt, dcF (by omega)]
    rfl
  | n + 1, i, k + 1, hn, hk => by
    have hi : i < s.length := by omega
    rw [firstI_step (d := (0, 0, 0, 0, 0, 0)) hi]
    simp only [IndexFunc_ov_L0]
    rw [i_lt, dcT hi, dcT (Int.natCast_nonneg i)]
    simp only [cond_true, Add1_spec, Option.bind_some, Int.toNat_natCast, w64_succ (by omega : i < 4611686018427387904), IndexFunc_ov_L0_spec s f hs n (i + 1) k (by omega) (by omega)]
    generalize s.getD i (0, 0, 0, 0, 0, 0) = x
    cases ovB x f <;> simp
theorem IndexFunc_ov_spec (s : List GContact) (f : GContact) (k : Nat) (hs : s.length < 4611686018427387904) (hk : s.length < k) : IndexFunc_ov k (s, f) = some (findIx (fun c => ovB c f) s) := by
  unfold IndexFunc_ov findIx
  have := IndexFunc_ov_L0_spec s f hs s.length 0 k (by omega) hk
  rw [Int.natCast_zero] at this
  simp only [this, Option.bind_some]
  unfold firstI
  rw [List.drop_zero]
  cases s.findIdx? (fun c => ovB c f) <;> simp
theorem findIx_any (p : GContact → Bool) (s : List GContact) : decide (0 ≤ findIx p s) = s.any p := by
  rw [Bool.eq_iff_iff, List.any_eq_true]
  rcases findIx_cases p s with ⟨h1, h2⟩ | ⟨j, h1, hj, hp, _⟩
  · rw [h1]
    constructor
    · intro h; simp at h
    · rintro ⟨x, hx, hp⟩; rw [h2 x hx] at hp; cases hp
  · rw [h1]
    exact ⟨fun _ => ⟨s[j], List.getElem_mem hj, hp⟩, fun _ => dcT (Int.natCast_nonneg j)⟩
theorem ContainsFunc_of_spec (s : List GContact) (f : Int) (k : Nat) (hs : s.length < 4611686018427387904) (hk : s.length < k) : ContainsFunc_of k (s, f) = some (s.any fun c => decide (c.1 = f)) := by
  unfold ContainsFunc_of
  simp only [IndexFunc_of_spec s f k hs hk, Option.bind_some, findIx_any]
  cases s.any (fun c => decide (c.1 = f)) <;> rfl
theorem ContainsFunc_ov_spec (s : List GContact) (f : GContact) (k : Nat) (hs : s.length < 4611686018427387904) (hk : s.length < k) : ContainsFunc_ov k (s, f) = some (s.any fun c => ovB c f) := by
  unfold ContainsFunc_ov
  simp only [IndexFunc_ov_spec s f k hs hk, Option.bind_some, findIx_any]
  cases s.any (fun c => ovB c f) <;> rfl
end Ex
namespace Ex
open Go
abbrev z56 : GRange := (0, 0, 0, 0, 0)
def ranB (r : GRange) : Bool := wayB r.1 r.2.1 && spanB r.2.2.1 r.2.2.2.1 && decide (0 ≤ r.2.2.2.2 ∧ r.2.2.2.2 ≤ 2147483647)
def rngR (r : GRange) : Prop := (-9223372036854775808 ≤ r.2.2.1 ∧ r.2.2.1 ≤ 9223372036854775807) ∧ (-9223372036854775808 ≤ r.2.2.2.1 ∧ r.2.2.2.1 ≤ 9223372036854775807)
theorem check_Range_spec (k : Nat) (r : GRange) (h : rngR r) : check_Range k r = some (ranB r) := by
  unfold check_Range ranB
  simp only [check_way_spec, check_span_spec _ _ _ h.2.1 h.2.2 h.1.1 h.1.2, num_In_spec, Option.bind_some]
  cases wayB r.1 r.2.1 <;> cases spanB r.2.2.1 r.2.2.2.1 <;> by_cases h3 : (0 ≤ r.2.2.2.2 ∧ r.2.2.2.2 ≤ 2147483647) <;> simp [h3]
theorem cmp_Or3_spec (k : Nat) (a b c : Int) : cmp_Or_int (k + 4) [a, b, c] = some (if a ≠ 0 then a else if b ≠ 0 then b else c) := by
  unfold cmp_Or_int
  have e1 : w64 (0 + 1) = 1 := by decide
  have e2 : w64 (1 + 1) = 2 := by decide
  have e3 : w64 (2 + 1) = 3 := by decide
  simp only [cmp_Or_int_L0, List.length_cons, List.length_nil, e1, e2, e3]
  by_cases h1 : a = 0 <;> by_cases h2 : b = 0 <;> by_cases h3 : c = 0 <;> simp [h1, h2, h3, e1, e2, e3]
def cmpR (a b : GRange) : Int := if cmpI a.1 b.1 ≠ 0 then cmpI a.1 b.1 else if cmpI a.2.1 b.2.1 ≠ 0 then cmpI a.2.1 b.2.1 else cmpI a.2.2.1 b.2.2.1
theorem CompareR_spec (k : Nat) (a b : GRange) (h : 5 ≤ k) : ranges_Compare k (a, b) = some (cmpR a b) := by
  obtain ⟨m, rfl⟩ : ∃ m, k = m + 4 := ⟨k - 4, by omega⟩
  unfold ranges_Compare cmpR
  simp only [cmp_Compare_spec, Option.bind_some, cmp_Or3_spec]
def ovQ (a b : GRange) : Bool := decide (a.1 = b.1) && decide (a.2.1 = b.2.1) && decide (max a.2.2.1 b.2.2.1 < min a.2.2.2.1 b.2.2.2.1)
theorem ranges_overlap_spec (k : Nat) (a b : GRange) : ranges_overlap k (a, b) = some (ovQ a b) := by
  unfold ranges_overlap ovQ
  have hx : ∀ x y : Int, mx x y = max x y := by intro x y; unfold mx; omega
  have hn : ∀ x y : Int, mn x y = min x y := by intro x y; unfold mn; omega
  simp only [hx, hn]
  by_cases h1 : a.1 = b.1 <;> by_cases h2 : a.2.1 = b.2.1 <;> by_cases h3 : max a.2.2.1 b.2.2.1 < min a.2.2.2.1 b.2.2.2.1 <;> simp [h1, h2, h3]
theorem CloneR_spec (l : List GRange) (k : Nat) (h : l.length ≤ 1000000000) : slices_Clone_api_Range_api_Range k l = some l := by
  unfold slices_Clone_api_Range_api_Range
  rw [dcT (by omega)]
  rfl
theorem eq5 (x y : GRange) : (x.1 == y.1 && (x.2.1 == y.2.1 && (x.2.2.1 == y.2.2.1 && (x.2.2.2.1 == y.2.2.2.1 && x.2.2.2.2 == y.2.2.2.2)))) = decide (x = y) := by
  obtain ⟨a, b, c, d, e⟩ := x
  obtain ⟨a', b', c', d', e'⟩ := y
  rw [Bool.eq_iff_iff]
  simp
theorem EqualR_L0_spec (a b : List GRange) (hs : a.length < 4611686018427387904) (hl : a.length = b.length) : ∀ (n i k : Nat), a.length - i = n → n < k → slices_Equal_api_Range_api_Range_L0 k (a, b, Int.ofNat a.length, (i : Int)) = some (sameI a b i)
  | 0, i, k + 1, hn, hk => by
    rw [sameI_end (by omega) hl]
    simp only [slices_Equal_api_Range_api_Range_L0]
    rw [i_lt, dcF (by omega)]
    rfl
  | n + 1, i, k + 1, hn, hk => by
    have hi : i < a.length := by omega
    rw [sameI_step (0, 0, 0, 0, 0) hi hl]
    simp only [slices_Equal_api_Range_api_Range_L0, eq5]
    rw [i_lt, dcT hi, dcT (Int.natCast_nonneg i), i_lt, dcT (hl ▸ hi : i < b.length)]
    simp only [cond_true, Int.toNat_natCast, w64_succ (by omega : i < 4611686018427387904), EqualR_L0_spec a b hs hl n (i + 1) k (by omega) (by omega)]
    by_cases h : a.getD i (0, 0, 0, 0, 0) = b.getD i (0, 0, 0, 0, 0)
    · rw [if_pos h, dcT h]; rfl
    · rw [if_neg h, dcF h]; rfl
theorem SameR_spec (a b : List GRange) (k : Nat) (hs : a.length ≤ 1000000000) (hk : a.length < k) : ranges_Same k (a, b) = some (decide (a = b)) := by
  have he : slices_Equal_api_Range_api_Range k (a, b) = some (decide (a = b)) := by
    unfold slices_Equal_api_Range_api_Range
    dsimp only
    by_cases hl : a.length = b.length
    · have := EqualR_L0_spec a b (by omega) hl a.length 0 k (by omega) hk
      rw [Int.natCast_zero] at this
      rw [dcT (by rw [hl] : Int.ofNat a.length = Int.ofNat b.length)]
      simp only [this, Bool.not_true, cond_false, Option.bind_some]
      unfold sameI
      by_cases h : a = b <;> simp [h]
    · have : ¬ a = b := fun h => hl (by rw [h])
      have h' : ¬ (Int.ofNat a.length = Int.ofNat b.length) := fun h => hl (Int.ofNat.inj h)
      rw [dcF h', dcF this]
      rfl
  unfold ranges_Same
  simp only [he, Option.bind_some]
  cases decide (a = b) <;> rfl
def firstA {α : Type} (p : α → Bool) (s : List α) (i : Nat) : Unit ⊕ Int := match (s.drop i).findIdx? p with
  | none => .inl ()
  | some j => .inr ((i + j : Nat) : Int)
theorem firstA_end {α : Type} {p : α → Bool} {s : List α} {i : Nat} (h : s.length ≤ i) : firstA p s i = .inl () := by
  unfold firstA; rw [List.drop_eq_nil_of_le h]; rfl
theorem firstA_step {α : Type} {p : α → Bool} {s : List α} {i : Nat} (d : α) (h : i < s.length) : firstA p s i = bif p (s.getD i d) then .inr (i : Int) else firstA p s (i + 1) := by
  unfold firstA
  rw [getD_drop (d := d) h, List.findIdx?_cons]
  generalize s.getD i d = x
  cases hp : p x with
  | true => simp
  | false =>
    simp only [cond_false]
    cases (s.drop (i + 1)).findIdx? p with
    | none => rfl
    | some j => simp; omega
def findA {α : Type} (p : α → Bool) (s : List α) : Int := match s.findIdx? p with
  | none => -1
  | some j => (j : Int)
theorem findA_first {α : Type} (p : α → Bool) (s : List α) : (match firstA p s 0 with | .inl _ => some (-1) | .inr r => some r) = some (findA p s) := by
  unfold firstA findA
  rw [List.drop_zero]
  cases s.findIdx? p <;> simp
theorem findA_cases {α : Type} (p : α → Bool) (s : List α) : (findA p s = -1 ∧ ∀ x ∈ s, p x = false) ∨ ∃ j : Nat, findA p s = (j : Int) ∧ ∃ h : j < s.length, p s[j] = true ∧ ∀ q (hq : q < j), p (s[q]'(by omega)) = false := by
  unfold findA
  cases h : s.findIdx? p with
  | none => exact .inl ⟨rfl, List.findIdx?_eq_none_iff.1 h⟩
  | some j =>
    obtain ⟨hj, hp, hlt⟩ := List.findIdx?_eq_some_iff_getElem.1 h
    exact .inr ⟨j, rfl, hj, hp, fun q hq => by simpa using hlt q hq⟩
theorem findA_any {α : Type} (p : α → Bool) (s : List α) : decide (0 ≤ findA p s) = s.any p := by
  rw [Bool.eq_iff_iff, List.any_eq_true]
  rcases findA_cases p s with ⟨h1, h2⟩ | ⟨j, h1, hj, hp, _⟩
  · rw [h1]
    constructor
    · intro h; simp at h
    · rintro ⟨x, hx, hp⟩; rw [h2 x hx] at hp; cases hp
  · rw [h1]
    exact ⟨fun _ => ⟨s[j], List.getElem_mem hj, hp⟩, fun _ => dcT (Int.natCast_nonneg j)⟩
theorem r1_L0_spec (s : List GContact) (f : GPlan) (hs : s.length ≤ 1000000000) : ∀ (n i k : Nat), s.length - i = n → n < k → IndexFunc_r1_L0 k (s, f, Int.ofNat s.length, (i : Int)) = some (firstA (fun c => decide (c.2.2.2.2.1 ≤ f.2.2.1)) s i)
  | 0, i, k + 1, hn, hk => by
    rw [firstA_end (by omega)]
    simp only [IndexFunc_r1_L0]
    rw [i_lt, dcF (by omega)]
    rfl
  | n + 1, i, k + 1, hn, hk => by
    have hi : i < s.length := by omega
    rw [firstA_step (0, 0, 0, 0, 0, 0) hi]
    simp only [IndexFunc_r1_L0]
    rw [i_lt, dcT hi, dcT (Int.natCast_nonneg i)]
    simp only [cond_true, plan_Right_1, Int.toNat_natCast, w64_succ (by omega : i < 4611686018427387904), r1_L0_spec s f hs n (i + 1) k (by omega) (by omega)]
    cases decide ((s.getD i (0, 0, 0, 0, 0, 0)).2.2.2.2.1 ≤ f.2.2.1) <;> rfl
theorem r1_spec (s : List GContact) (f : GPlan) (k : Nat) (hs : s.length ≤ 1000000000) (hk : s.length < k) : ContainsFunc_r1 k (s, f) = some (s.any fun c => decide (c.2.2.2.2.1 ≤ f.2.2.1)) := by
  have h1 : IndexFunc_r1 k (s, f) = some (findA (fun c => decide (c.2.2.2.2.1 ≤ f.2.2.1)) s) := by
    unfold IndexFunc_r1
    have := r1_L0_spec s f hs s.length 0 k (by omega) hk
    rw [Int.natCast_zero] at this
    simp only [this, Option.bind_some]
    exact findA_first _ _
  unfold ContainsFunc_r1
  simp only [h1, Option.bind_some, findA_any]
  cases s.any (fun c => decide (c.2.2.2.2.1 ≤ f.2.2.1)) <;> rfl
theorem r2_L0_spec (s : List GRange) (f : GPlan) (hs : s.length ≤ 1000000000) : ∀ (n i k : Nat), s.length - i = n → n < k → IndexFuncR_r2_L0 k (s, f, Int.ofNat s.length, (i : Int)) = some (firstA (fun c => decide (c.2.2.2.1 ≤ f.2.2.1)) s i)
  | 0, i, k + 1, hn, hk => by
    rw [firstA_end (by omega)]
    simp only [IndexFuncR_r2_L0]
    rw [i_lt, dcF (by omega)]
    rfl
  | n + 1, i, k + 1, hn, hk => by
    have hi : i < s.length := by omega
    rw [firstA_step (0, 0, 0, 0, 0) hi]
    simp only [IndexFuncR_r2_L0]
    rw [i_lt, dcT hi, dcT (Int.natCast_nonneg i)]
    simp only [cond_true, plan_Right_2, Int.toNat_natCast, w64_succ (by omega : i < 4611686018427387904), r2_L0_spec s f hs n (i + 1) k (by omega) (by omega)]
    cases decide ((s.getD i (0, 0, 0, 0, 0)).2.2.2.1 ≤ f.2.2.1) <;> rfl
theorem r2_spec (s : List GRange) (f : GPlan) (k : Nat) (hs : s.length ≤ 1000000000) (hk : s.length < k) : ContainsFuncR_r2 k (s, f) = some (s.any fun c => decide (c.2.2.2.1 ≤ f.2.2.1)) := by
  have h1 : IndexFuncR_r2 k (s, f) = some (findA (fun c => decide (c.2.2.2.1 ≤ f.2.2.1)) s) := by
    unfold IndexFuncR_r2
    have := r2_L0_spec s f hs s.length 0 k (by omega) hk
    rw [Int.natCast_zero] at this
    simp only [this, Option.bind_some]
    exact findA_first _ _
  unfold ContainsFuncR_r2
  simp only [h1, Option.bind_some, findA_any]
  cases s.any (fun c => decide (c.2.2.2.1 ≤ f.2.2.1)) <;> rfl
theorem Add1R_spec (k : Nat) (x c : GRange) : ranges_Add_1 k (x, c) = some (ovQ x c) := by
  unfold ranges_Add_1
  simp only [ranges_overlap_spec, Option.bind_some]
  cases ovQ x c <;> rfl
theorem ovR_L0_spec (s : List GRange) (f : GRange) (hs : s.length ≤ 1000000000) : ∀ (n i k : Nat), s.length - i = n → n < k → IndexFuncR_ov_L0 k (s, f, Int.ofNat s.length, (i : Int)) = some (firstA (fun c => ovQ c f) s i)
  | 0, i, k + 1, hn, hk => by
    rw [firstA_end (by omega)]
    simp only [IndexFuncR_ov_L0]
    rw [i_lt, dcF (by omega)]
    rfl
  | n + 1, i, k + 1, hn, hk => by
    have hi : i < s.length := by omega
    rw [firstA_step (0, 0, 0, 0, 0) hi]
    simp only [IndexFuncR_ov_L0]
    rw [i_lt, dcT hi, dcT (Int.natCast_nonneg i)]
    simp only [cond_true, Add1R_spec, Option.bind_some, Int.toNat_natCast, w64_succ (by omega : i < 4611686018427387904), ovR_L0_spec s f hs n (i + 1) k (by omega) (by omega)]
    cases ovQ (s.getD i (0, 0, 0, 0, 0)) f <;> rfl
theorem ovs_spec (s : List GRange) (f : GRange) (k : Nat) (hs : s.length ≤ 1000000000) (hk : s.length < k) : ContainsFuncR_ov k (s, f) = some (s.any fun c => ovQ c f) := by
  have h1 : IndexFuncR_ov k (s, f) = some (findA (fun c => ovQ c f) s) := by
    unfold IndexFuncR_ov
    have := ovR_L0_spec s f hs s.length 0 k (by omega) hk
    rw [Int.natCast_zero] at this
    simp only [this, Option.bind_some]
    exact findA_first _ _
  unfold ContainsFuncR_ov
  simp only [h1, Option.bind_some, findA_any]
  cases s.any (fun c => ovQ c f) <;> rfl
theorem exR_L0_spec (s : List GRange) (f : Int) (hs : s.length ≤ 1000000000) : ∀ (n i k : Nat), s.length - i = n → n < k → IndexFuncR_ex_L0 k (s, f, Int.ofNat s.length, (i : Int)) = some (firstA (fun c => decide (c.2.2.2.1 ≤ f)) s i)
  | 0, i, k + 1, hn, hk => by
    rw [firstA_end (by omega)]
    simp only [IndexFuncR_ex_L0]
    rw [i_lt, dcF (by omega)]
    rfl
  | n + 1, i, k + 1, hn, hk => by
    have hi : i < s.length := by omega
    rw [firstA_step (0, 0, 0, 0, 0) hi]
    simp only [IndexFuncR_ex_L0]
    rw [i_lt, dcT hi, dcT (Int.natCast_nonneg i)]
    simp only [cond_true, ranges_Expire_1, Int.toNat_natCast, w64_succ (by omega : i < 4611686018427387904), exR_L0_spec s f hs n (i + 1) k (by omega) (by omega)]
    cases decide ((s.getD i (0, 0, 0, 0, 0)).2.2.2.1 ≤ f) <;> rfl
theorem exR_spec (s : List GRange) (f : Int) (k : Nat) (hs : s.length ≤ 1000000000) (hk : s.length < k) : IndexFuncR_ex k (s, f) = some (findA (fun c => decide (c.2.2.2.1 ≤ f)) s) := by
  unfold IndexFuncR_ex
  have := exR_L0_spec s f hs s.length 0 k (by omega) hk
  rw [Int.natCast_zero] at this
  simp only [this, Option.bind_some]
  exact findA_first _ _
def keepR (now : Int) (r : GRange) : Bool := !decide (r.2.2.2.1 ≤ now)
theorem DelFuncR_L0_spec (s : List GRange) (f : Int) (hs : s.length ≤ 1000000000) : ∀ (n i j k : Nat) (t : List GRange), t.length = s.length → s.length - j = n → n < k → i ≤ j → j ≤ s.length → t.take i = (s.take j).filter (keepR f) → t.drop j = s.drop j →
    ∃ (t' : List GRange) (i' : Nat), DeleteFuncR_ex_L0 k (t, f, (i : Int), (j : Int)) = some (.inl (t', (i' : Int))) ∧ t'.length = s.length ∧ i' ≤ s.length ∧ t'.take i' = s.filter (keepR f)
  | 0, i, j, k + 1, t, hl, hn, hk, hij, hj, h1, h2 => by
    refine ⟨t, i, ?_, hl, by omega, ?_⟩
    · simp only [DeleteFuncR_ex_L0]
      rw [i_lt, dcF (by omega)]
      rfl
    · rw [h1, List.take_of_length_le (by omega)]
  | n + 1, i, j, k + 1, t, hl, hn, hk, hij, hj, h1, h2 => by
    have hjt : j < t.length := by omega
    have hjs : j < s.length := by omega
    have hx : t.getD j z56 = s.getD j z56 := by
      have h3 := h2
      rw [getD_drop (d := z56) hjt, getD_drop (d := z56) hjs, List.cons.injEq] at h3
      exact h3.1
    have hd : t.drop (j + 1) = s.drop (j + 1) := by
      have h3 := h2
      rw [getD_drop (d := z56) hjt, getD_drop (d := z56) hjs, List.cons.injEq] at h3
      exact h3.2
    have hf := filter_take_succ (p := keepR f) z56 hjs
    simp only [DeleteFuncR_ex_L0]
    rw [i_lt, dcT hjt, dcT (Int.natCast_nonneg j)]
    simp only [cond_true, ranges_Expire_1, Int.toNat_natCast, hx, w64_succ (by omega : j < 4611686018427387904), w64_succ (by omega : i < 4611686018427387904)]
    rw [i_lt, dcT (by omega : i < t.length), dcT (Int.natCast_nonneg i)]
    generalize hxx : s.getD j z56 = x at *
    by_cases h : x.2.2.2.1 ≤ f
    · rw [dcT h]
      refine DelFuncR_L0_spec s f hs n i (j + 1) k t hl (by omega) (by omega) (by omega) (by omega) ?_ hd
      rw [hf, h1]
      simp [keepR, h]
    · rw [dcF h]
      simp only [cond_true, cond_false, Option.bind_some]
      refine DelFuncR_L0_spec s f hs n (i + 1) (j + 1) k (t.set i x) (by simp [hl]) (by omega) (by omega) (by omega) (by omega) ?_ ?_
      · rw [take_set_self (by omega), hf, h1]
        simp [keepR, h]
      · rw [List.drop_set_of_lt (by omega)]
        exact hd
theorem DelFuncR_spec (s : List GRange) (f : Int) (k : Nat) (hs : s.length ≤ 1000000000) (hk : s.length < k) : DeleteFuncR_ex k s f = some (s.filter (keepR f)) := by
  unfold DeleteFuncR_ex
  simp only [exR_spec s f k hs hk, Option.bind_some]
  rcases findA_cases (fun c : GRange => decide (c.2.2.2.1 ≤ f)) s with ⟨h1, h2⟩ | ⟨j, h1, hj, hp, hlt⟩
  · rw [h1]
    have : s.filter (keepR f) = s := List.filter_eq_self.2 (fun x hx => by have := h2 x hx; unfold keepR; rw [this]; rfl)
    rw [this]
    rfl
  · rw [h1, dcF (by omega)]
    simp only [cond_false, w64_succ (by omega : j < 4611686018427387904)]
    have hpre : (s.take j).filter (keepR f) = s.take j := List.filter_eq_self.2 (fun x hx => by
      obtain ⟨q, hq, rfl⟩ := List.mem_iff_getElem.1 hx
      have hq' : q < j := by rw [List.length_take] at hq; omega
      have := hlt q hq'
      simp only [List.getElem_take, keepR]
      rw [this]; rfl)
    obtain ⟨t', i', e1, e2, e3, e4⟩ := DelFuncR_L0_spec s f hs (s.length - (j + 1)) j (j + 1) k s rfl rfl (by omega) (by omega) (by omega) (by
      rw [filter_take_succ (p := keepR f) z56 hj, hpre, List.getD_eq_getElem?_getD, List.getElem?_eq_getElem hj]
      have hkp : keepR f s[j] = false := by unfold keepR; rw [hp]; rfl
      simp [hkp]) rfl
    rw [e1]
    have hcl : (clearL t' i' z56).length = t'.length := by
      unfold clearL
      rw [List.length_append, List.length_take, List.length_replicate]; omega
    have htk : (clearL t' i' z56).take i' = t'.take i' := by
      unfold clearL
      rw [List.take_append_of_le_length (by rw [List.length_take]; omega), List.take_take, Nat.min_self]
    have hle : decide ((i' : Int) ≤ Int.ofNat t'.length) = true := dcT (by rw [e2]; exact Int.ofNat_le.2 e3)
    simp only [Option.bind_some, Int.toNat_natCast, dcT (Int.natCast_nonneg i'), hle, hcl, cond_true, htk, e4]
def leftR (now : Int) (l : List GRange) : List GRange := l.filter fun c => decide (now < c.2.2.2.1)
theorem ExpireR_spec (l : List GRange) (now : Int) (k : Nat) (hs : l.length ≤ 1000000000) (hk : l.length < k) : ranges_Expire k (l, now) = some (leftR now l) := by
  unfold ranges_Expire
  simp only [CloneR_spec l k hs, DelFuncR_spec l now k hs hk, Option.bind_some]
  have : keepR now = fun c : GRange => decide (now < c.2.2.2.1) := by
    funext c
    unfold keepR
    rw [Bool.eq_iff_iff]
    simp
  rw [this]
  rfl
end Ex
namespace Ex
open Go
theorem cmpR_neg (a b : GRange) : cmpR b a = - cmpR a b := by
  unfold cmpR cmpI
  repeat' split <;> omega
theorem cmpR_lt (a b : GRange) : cmpR a b < 0 ↔ (a.1 < b.1 ∨ (a.1 = b.1 ∧ (a.2.1 < b.2.1 ∨ (a.2.1 = b.2.1 ∧ a.2.2.1 < b.2.2.1)))) := by
  unfold cmpR cmpI
  repeat' split <;> omega
theorem cmpR_zero (a b : GRange) : cmpR a b = 0 ↔ (a.1 = b.1 ∧ a.2.1 = b.2.1 ∧ a.2.2.1 = b.2.2.1) := by
  unfold cmpR cmpI
  repeat' split <;> omega
theorem cmpR_trans {a b c : GRange} (h1 : cmpR a b < 0) (h2 : cmpR b c < 0) : cmpR a c < 0 := by
  rw [cmpR_lt] at *; omega
def okQ (l : List GRange) (i : Nat) : Bool := ranB (l.getD i z56) && (bif decide (0 < i) then decide (cmpR (l.getD (i - 1) z56) (l.getD i z56) < 0) && !ovQ (l.getD (i - 1) z56) (l.getD i z56) else true)
def chkQ (l : List GRange) : Nat → Nat → Bool
  | 0, _ => true
  | n + 1, i => okQ l i && chkQ l n (i + 1)
theorem chkQ_all (l : List GRange) : ∀ n i, chkQ l n i = true ↔ ∀ q, i ≤ q → q < i + n → okQ l q = true
  | 0, i => by simp only [chkQ]; exact ⟨fun _ q h1 h2 => by omega, fun _ => trivial⟩
  | n + 1, i => by
    simp only [chkQ, Bool.and_eq_true, chkQ_all l n (i + 1)]
    constructor
    · rintro ⟨h1, h2⟩ q hq1 hq2
      rcases Nat.eq_or_lt_of_le hq1 with rfl | h
      · exact h1
      · exact h2 q (by omega) (by omega)
    · intro h
      exact ⟨h i (Nat.le_refl _) (by omega), fun q h1 h2 => h q (by omega) (by omega)⟩
theorem RightQ_L0_spec (l : List GRange) (hs : l.length ≤ 1000000000) (hr : ∀ c ∈ l, rngR c) : ∀ (n i k : Nat), l.length - i = n → n + 5 < k → i ≤ l.length → ranges_Right_L0 k (l, l, Int.ofNat l.length, (i : Int)) = some (bif chkQ l n i then .inl l else .inr false)
  | 0, i, k + 1, hn, hk, hi => by
    simp only [ranges_Right_L0]
    rw [i_lt, dcF (by omega)]
    rfl
  | n + 1, i, k + 1, hn, hk, _ => by
    have hi : i < l.length := by omega
    have hg : l.getD i z56 ∈ l := by rw [List.getD_eq_getElem?_getD, List.getElem?_eq_getElem hi]; exact List.getElem_mem hi
    have hc := check_Range_spec k (l.getD i z56) (hr _ hg)
    have ih := RightQ_L0_spec l hs hr n (i + 1) k (by omega) (by omega) (by omega)
    simp only [ranges_Right_L0]
    rw [i_lt, dcT hi, dcT (Int.natCast_nonneg i), Int.toNat_natCast]
    simp only [cond_true, hc, Option.bind_some, chkQ, okQ]
    cases ranB (l.getD i z56) with
    | false => rfl
    | true =>
      simp only [cond_true, Bool.true_and, w64_succ (by omega : i < 4611686018427387904), ih]
      by_cases h0 : 0 < i
      · have e0 : w64 ((i : Int) - 1) = ((i - 1 : Nat) : Int) := by rw [w64_id (by omega) (by omega)]; omega
        rw [dcT (by omega : (0 : Int) < (i : Int)), dcT h0, e0]
        rw [i_lt, dcT (by omega : i - 1 < l.length), dcT (Int.natCast_nonneg (i - 1)), Int.toNat_natCast]
        simp only [cond_true, CompareR_spec k _ _ (by omega : 5 ≤ k), Option.bind_some, ranges_overlap_spec]
        by_cases h1 : cmpR (l.getD (i - 1) z56) (l.getD i z56) < 0
        · rw [dcF (by omega : ¬ 0 ≤ cmpR (l.getD (i - 1) z56) (l.getD i z56)), dcT h1]
          cases ovQ (l.getD (i - 1) z56) (l.getD i z56) <;> rfl
        · rw [dcT (by omega : 0 ≤ cmpR (l.getD (i - 1) z56) (l.getD i z56)), dcF h1]
          rfl
      · rw [dcF (by omega : ¬ (0 : Int) < (i : Int)), dcF h0]
        rfl
theorem ran_span {r : GRange} (h : ranB r = true) : r.2.2.1 < r.2.2.2.1 := by
  unfold ranB spanB at h
  simp only [Bool.and_eq_true, decide_eq_true_eq] at h
  omega
def ovD (a b : GRange) : Prop := a.1 = b.1 ∧ a.2.1 = b.2.1 ∧ a.2.2.1 < b.2.2.2.1 ∧ b.2.2.1 < a.2.2.2.1
theorem ovQ_iff {a b : GRange} (ha : ranB a = true) (hb : ranB b = true) : ovQ a b = true ↔ ovD a b := by
  have := ran_span ha
  have := ran_span hb
  unfold ovQ ovD
  simp only [Bool.and_eq_true, decide_eq_true_eq]
  omega
theorem ovQ_false {a b : GRange} (ha : ranB a = true) (hb : ranB b = true) : ovQ a b = false ↔ ¬ ovD a b := by
  rw [← ovQ_iff ha hb]; simp
def RQ (a b : GRange) : Prop := cmpR a b < 0 ∧ (a.1 = b.1 → a.2.1 = b.2.1 → a.2.2.2.1 ≤ b.2.2.1)
def RightR (l : List GRange) : Prop := (∀ c ∈ l, ranB c = true) ∧ l.Pairwise RQ
theorem getR {l : List GRange} {i : Nat} (h : i < l.length) : l.getD i z56 = l[i] := by rw [List.getD_eq_getElem?_getD, List.getElem?_eq_getElem h]; rfl
theorem RQ_trans {a b c : GRange} (ha : ranB a = true) (hb : ranB b = true) (hc : ranB c = true) (h1 : RQ a b) (h2 : RQ b c) : RQ a c := by
  have s1 := ran_span ha
  have s2 := ran_span hb
  have s3 := ran_span hc
  obtain ⟨p1, p2⟩ := h1
  obtain ⟨q1, q2⟩ := h2
  refine ⟨cmpR_trans p1 q1, fun e1 e2 => ?_⟩
  rw [cmpR_lt] at p1 q1
  omega
theorem rightR_iff (l : List GRange) : chkQ l l.length 0 = true ↔ RightR l := by
  rw [chkQ_all]
  constructor
  · intro h
    have h' : ∀ q, q < l.length → okQ l q = true := fun q hq => h q (Nat.zero_le _) (by omega)
    have hc : ∀ q (hq : q < l.length), ranB l[q] = true := fun q hq => by
      have := h' q hq
      unfold okQ at this
      simp only [Bool.and_eq_true] at this
      rw [getR hq] at this
      exact this.1
    have hn : ∀ q (hq : q + 1 < l.length), RQ l[q] l[q + 1] := fun q hq => by
      have := h' (q + 1) hq
      unfold okQ at this
      rw [dcT (Nat.succ_pos q), Nat.add_sub_cancel, getR (by omega : q < l.length), getR hq] at this
      simp only [cond_true, Bool.and_eq_true, decide_eq_true_eq, Bool.not_eq_true'] at this
      have s1 := ran_span (hc q (by omega))
      have s2 := ran_span (hc (q + 1) hq)
      obtain ⟨_, h3, h4⟩ := this
      rw [ovQ_false (hc _ _) (hc _ _)] at h4
      refine ⟨h3, fun e1 e2 => ?_⟩
      rw [cmpR_lt] at h3
      unfold ovD at h4
      omega
    refine ⟨fun c hc' => ?_, ?_⟩
    · obtain ⟨q, hq, rfl⟩ := List.mem_iff_getElem.1 hc'
      exact hc q hq
    · rw [List.pairwise_iff_getElem]
      intro i j hi hj hij
      obtain ⟨d, rfl⟩ : ∃ d, j = i + 1 + d := ⟨j - i - 1, by omega⟩
      clear hij
      induction d with
      | zero => exact hn i hj
      | succ d ih => exact RQ_trans (hc _ _) (hc _ (by omega)) (hc _ _) (ih (by omega)) (hn (i + 1 + d) hj)
  · rintro ⟨h1, h2⟩ q _ hq
    have hq : q < l.length := by omega
    rw [List.pairwise_iff_getElem] at h2
    unfold okQ
    simp only [Bool.and_eq_true]
    refine ⟨by rw [getR hq]; exact h1 _ (List.getElem_mem hq), ?_⟩
    by_cases h0 : 0 < q
    · rw [dcT h0]
      simp only [cond_true, Bool.and_eq_true, decide_eq_true_eq, Bool.not_eq_true']
      have hq1 : q - 1 < l.length := by omega
      rw [getR hq1, getR hq]
      obtain ⟨a1, a3⟩ := h2 (q - 1) q hq1 hq (by omega)
      refine ⟨a1, ?_⟩
      rw [ovQ_false (h1 _ (List.getElem_mem hq1)) (h1 _ (List.getElem_mem hq))]
      rintro ⟨b1, b2, b3, b4⟩
      have := a3 b1 b2
      omega
    · rw [dcF h0]; rfl
theorem RightR.sort {l : List GRange} (h : RightR l) : ∀ i j, i < j → j < l.length → cmpR (l.getD i z56) (l.getD j z56) < 0 := fun i j hij hj => by
  have := (List.pairwise_iff_getElem.1 h.2) i j (by omega) hj hij
  rw [getR (by omega), getR hj]
  exact this.1
def rightQ (l : List GRange) : Bool := chkQ l l.length 0 && decide (l.length ≤ 4096)
theorem rightQ_iff {l : List GRange} : rightQ l = true ↔ RightR l ∧ l.length ≤ 4096 := by
  unfold rightQ; rw [Bool.and_eq_true, rightR_iff, decide_eq_true_eq]
theorem RightQ_spec (l : List GRange) (k : Nat) (hs : l.length ≤ 1000000000) (hr : ∀ c ∈ l, rngR c) (hk : l.length + 5 < k) : ranges_Right k l = some (rightQ l) := by
  unfold ranges_Right rightQ
  have := RightQ_L0_spec l hs hr l.length 0 k (by omega) hk (by omega)
  rw [Int.natCast_zero] at this
  simp only [this, Option.bind_some]
  cases chkQ l l.length 0 with
  | false => rfl
  | true =>
    simp only [cond_true, Bool.true_and]
    have e : decide (Int.ofNat l.length ≤ 4096) = decide (l.length ≤ 4096) := by
      have : Int.ofNat l.length = (l.length : Int) := rfl
      rw [this]
      by_cases h : l.length ≤ 4096
      · rw [dcT h, dcT (by omega)]
      · rw [dcF h, dcF (by omega)]
    rw [e]
    cases decide (l.length ≤ 4096) <;> rfl
theorem RightR.nil : RightR [] := ⟨fun c hc => (by cases hc), List.Pairwise.nil⟩
theorem RightR.filter {l : List GRange} (h : RightR l) (p : GRange → Bool) : RightR (l.filter p) := ⟨fun c hc => h.1 c (List.mem_filter.1 hc).1, h.2.filter p⟩
theorem BSR_L0_spec (l : List GRange) (t : GRange) (n : Int) (hs : l.length ≤ 1000000000) (hsort : ∀ i j, i < j → j < l.length → cmpR (l.getD i z56) (l.getD j z56) < 0) : ∀ (m i j k : Nat), j - i ≤ m → m + 5 < k → i ≤ j → j ≤ l.length → (∀ q, q < i → cmpR (l.getD q z56) t < 0) → (∀ q, j ≤ q → q < l.length → 0 ≤ cmpR (l.getD q z56) t) →
    ∃ r, r ≤ l.length ∧ (∀ q, q < r → cmpR (l.getD q z56) t < 0) ∧ (∀ q, r ≤ q → q < l.length → 0 ≤ cmpR (l.getD q z56) t) ∧ BinarySearchFunc_R_L0 k (l, (), t, n, (i : Int), (j : Int)) = some (.inl (l, (), t, n, (r : Int)))
  | m, i, j, k + 1, hm, hk, hij, hj, h1, h2 => by
    by_cases hlt : i < j
    · have hh : (i + j) / 2 < j ∧ i ≤ (i + j) / 2 := by omega
      have hcmp := CompareR_spec k (l.getD ((i + j) / 2) z56) t (by omega)
      obtain ⟨m', rfl⟩ : ∃ m', m = m' + 1 := ⟨m - 1, by omega⟩
      simp only [BinarySearchFunc_R_L0]
      rw [dcT (by omega : (i : Int) < (j : Int)), mid_id (by omega), dcT (Int.natCast_nonneg ((i + j) / 2)), i_lt, dcT (by omega : (i + j) / 2 < l.length), Int.toNat_natCast]
      simp only [cond_true, hcmp, Option.bind_some, w64_succ (by omega : (i + j) / 2 < 4611686018427387904)]
      by_cases hc : cmpR (l.getD ((i + j) / 2) z56) t < 0
      · rw [dcT hc]
        exact BSR_L0_spec l t n hs hsort m' ((i + j) / 2 + 1) j k (by omega) (by omega) (by omega) hj (fun q hq => by
          rcases Nat.eq_or_lt_of_le (Nat.lt_succ_iff.1 hq) with rfl | hq
          · exact hc
          · exact cmpR_trans (hsort q _ hq (by omega)) hc) h2
      · rw [dcF hc]
        refine BSR_L0_spec l t n hs hsort m' i ((i + j) / 2) k (by omega) (by omega) (by omega) (by omega) h1 (fun q hq hql => ?_)
        rcases Nat.eq_or_lt_of_le hq with rfl | hq
        · omega
        · rcases Int.lt_or_le (cmpR (l.getD q z56) t) 0 with h | h
          · exact absurd (cmpR_trans (hsort _ q hq hql) h) hc
          · exact h
    · refine ⟨i, by omega, h1, fun q hq => h2 q (by omega), ?_⟩
      simp only [BinarySearchFunc_R_L0]
      rw [dcF (by omega)]
      rfl
theorem BSR_spec (l : List GRange) (t : GRange) (k : Nat) (hs : l.length ≤ 1000000000) (hsort : ∀ i j, i < j → j < l.length → cmpR (l.getD i z56) (l.getD j z56) < 0) (hk : l.length + 6 < k) :
    ∃ r, r ≤ l.length ∧ (∀ q, q < r → cmpR (l.getD q z56) t < 0) ∧ (∀ q, r ≤ q → q < l.length → 0 ≤ cmpR (l.getD q z56) t) ∧ BinarySearchFunc_R k (l, t, ()) = some ((r : Int), decide (r < l.length ∧ cmpR (l.getD r z56) t = 0)) := by
  obtain ⟨r, h1, h2, h3, h4⟩ := BSR_L0_spec l t (Int.ofNat l.length) hs hsort l.length 0 l.length k (by omega) (by omega) (by omega) (Nat.le_refl _) (fun q hq => by omega) (fun q hq hq' => by omega)
  refine ⟨r, h1, h2, h3, ?_⟩
  have h4' : BinarySearchFunc_R_L0 k (l, (), t, Int.ofNat l.length, 0, Int.ofNat l.length) = some (.inl (l, (), t, Int.ofNat l.length, (r : Int))) := h4
  unfold BinarySearchFunc_R
  simp only [h4', Option.bind_some]
  have hcmp := CompareR_spec k (l.getD r z56) t (by omega)
  rw [i_lt]
  by_cases hr : r < l.length
  · rw [dcT hr, dcT (Int.natCast_nonneg r), Int.toNat_natCast]
    simp only [cond_true, hcmp, Option.bind_some, hr, true_and]
    by_cases hc : cmpR (l.getD r z56) t = 0
    · rw [dcT hc]; rfl
    · rw [dcF hc]; rfl
  · rw [dcF hr, dcF (show ¬ (r < l.length ∧ cmpR (l.getD r z56) t = 0) from fun h => hr h.1)]
    rfl
def insR (l : List GRange) (r : Nat) (c : GRange) : List GRange := l.take r ++ c :: l.drop r
theorem insR_mem {l : List GRange} {r : Nat} {c x : GRange} : x ∈ insR l r c ↔ x = c ∨ x ∈ l := by
  unfold insR
  rw [List.mem_append, List.mem_cons]
  have : x ∈ l ↔ x ∈ l.take r ∨ x ∈ l.drop r := by rw [← List.mem_append, List.take_append_drop]
  rw [this]
  constructor
  · rintro (h | h | h)
    · exact .inr (.inl h)
    · exact .inl h
    · exact .inr (.inr h)
  · rintro (h | h | h)
    · exact .inr (.inl h)
    · exact .inl h
    · exact .inr (.inr h)
theorem insR_len {l : List GRange} {r : Nat} {c : GRange} : (insR l r c).length = l.length + 1 := by
  unfold insR
  rw [List.length_append, List.length_cons, List.length_take, List.length_drop]; omega
theorem RightR.ins {l : List GRange} (h : RightR l) {r : Nat} {c : GRange} (hr : r ≤ l.length) (h1 : ∀ q, q < r → cmpR (l.getD q z56) c < 0) (h2 : ∀ q, r ≤ q → q < l.length → 0 ≤ cmpR (l.getD q z56) c) (hc : ranB c = true) (hov : ∀ x ∈ l, ovQ x c = false) : RightR (insR l r c) := by
  constructor
  · intro x hx
    rcases insR_mem.1 hx with rfl | hx
    · exact hc
    · exact h.1 x hx
  · unfold insR
    have hp := h.2
    rw [← List.take_append_drop r l] at hp
    rw [List.pairwise_append] at hp
    obtain ⟨p1, p2, p3⟩ := hp
    have t1 : ∀ x ∈ l.take r, cmpR x c < 0 := fun x hx => by
      obtain ⟨q, hq, rfl⟩ := List.mem_iff_getElem.1 hx
      have hq' : q < r := by rw [List.length_take] at hq; omega
      have := h1 q hq'
      rw [getR (by omega)] at this
      rw [List.getElem_take]
      exact this
    have t2 : ∀ x ∈ l.drop r, 0 ≤ cmpR x c := fun x hx => by
      obtain ⟨q, hq, rfl⟩ := List.mem_iff_getElem.1 hx
      have hq' : r + q < l.length := by rw [List.length_drop] at hq; omega
      have := h2 (r + q) (by omega) hq'
      rw [getR hq'] at this
      rw [List.getElem_drop]
      exact this
    have sc := ran_span hc
    have o1 : ∀ x ∈ l.take r, RQ x c := fun x hx => by
      have hm := List.mem_of_mem_take hx
      have hlt := t1 x hx
      refine ⟨hlt, fun e1 e2 => ?_⟩
      have hv := hov x hm
      rw [ovQ_false (h.1 x hm) hc] at hv
      unfold ovD at hv
      rw [cmpR_lt] at hlt
      have sx := ran_span (h.1 x hm)
      omega
    have o2 : ∀ x ∈ l.drop r, RQ c x := fun x hx => by
      have hm := List.mem_of_mem_drop hx
      have hge := t2 x hx
      have hv := hov x hm
      rw [ovQ_false (h.1 x hm) hc] at hv
      unfold ovD at hv
      have sx := ran_span (h.1 x hm)
      have hlt : cmpR c x < 0 := by
        rw [cmpR_neg]
        have hne : cmpR x c ≠ 0 := fun e => by
          rw [cmpR_zero] at e
          omega
        omega
      refine ⟨hlt, fun e1 e2 => ?_⟩
      rw [cmpR_lt] at hlt
      omega
    rw [List.pairwise_append, List.pairwise_cons]
    refine ⟨p1, ⟨o2, p2⟩, fun a ha b hb => ?_⟩
    rcases List.mem_cons.1 hb with rfl | hb
    · exact o1 a ha
    · exact p3 a ha b hb
theorem InsertR_one (l : List GRange) (c : GRange) (r k : Nat) (hs : l.length ≤ 1000000000) (hr : r ≤ l.length) : slices_InsertR k l ((r : Int), [c]) = some (insR l r c) := by
  unfold slices_InsertR insF insR
  rw [dcT (Int.natCast_nonneg r), dcT (show (r : Int) ≤ Int.ofNat l.length from by have : Int.ofNat l.length = (l.length : Int) := rfl; omega), dcT (show (l.length + [c].length) * 40 ≤ 140737488355328 from by simp only [List.length_cons, List.length_nil]; omega)]
  simp
theorem AddR_cases {l : List GRange} (h : RightR l) (hl : l.length ≤ 5000) (c : GRange) (hc : rngR c) (k : Nat) (hk : l.length + 6 < k) :
    (∃ e, e ≠ 0 ∧ ranges_Add k (l, c) = some (l, e)) ∨ ∃ r, ranges_Add k (l, c) = some (insR l r c, 0) ∧ RightR (insR l r c) ∧ l.length < 4096 := by
  obtain ⟨r, r1, r2, r3, r4⟩ := BSR_spec l c k (by omega) h.sort hk
  unfold ranges_Add
  simp only [CloneR_spec l k (by omega), check_Range_spec k c hc, ovs_spec l c k (by omega) (by omega), r4, InsertR_one l c r k (by omega) r1, Option.bind_some]
  cases hb : ranB c with
  | false => exact .inl ⟨1, by decide, rfl⟩
  | true =>
    by_cases hful : 4096 ≤ l.length
    · have h4 : decide (4096 ≤ Int.ofNat l.length) = true := dcT (by have : Int.ofNat l.length = (l.length : Int) := rfl; omega)
      rw [h4]; exact .inl ⟨3, by decide, rfl⟩
    have h4 : decide (4096 ≤ Int.ofNat l.length) = false := dcF (by have : Int.ofNat l.length = (l.length : Int) := rfl; omega)
    rw [h4]
    cases ho : l.any (fun x => ovQ x c) with
    | true => exact .inl ⟨5, by decide, rfl⟩
    | false =>
      have hov : ∀ x ∈ l, ovQ x c = false := fun x hx => by
        have := List.any_eq_false.1 ho x hx
        simpa using this
      refine .inr ⟨r, ?_, h.ins r1 r2 r3 hb hov, by omega⟩
      cases decide (r < l.length ∧ cmpR (l.getD r z56) c = 0) <;> rfl
theorem DeleteR_cases {l : List GRange} (h : RightR l) (hl : l.length ≤ 5000) (c : GRange) (k : Nat) (hk : l.length + 6 < k) :
    (∃ e, e ≠ 0 ∧ ranges_Delete k (l, c) = some (l, e)) ∨ ∃ l', ranges_Delete k (l, c) = some (l', 0) ∧ RightR l' ∧ l'.length + 1 = l.length ∧ ∀ x ∈ l', x ∈ l := by
  obtain ⟨r, r1, r2, r3, r4⟩ := BSR_spec l c k (by omega) h.sort hk
  unfold ranges_Delete
  simp only [CloneR_spec l k (by omega), r4, Option.bind_some]
  by_cases hf : r < l.length ∧ cmpR (l.getD r z56) c = 0
  · rw [dcT hf]
    have hs : (l.take r ++ l.drop (r + 1)).Sublist l := by
      have := List.take_append_drop r l
      conv => rhs; rw [← List.take_append_drop r l]
      refine List.Sublist.append (List.Sublist.refl _) ?_
      have : l.drop (r + 1) = (l.drop r).drop 1 := by rw [List.drop_drop]
      rw [this]
      exact List.drop_sublist 1 _
    have hd : slices_DeleteR k l ((r : Int), w64 ((r : Int) + 1)) = some (l.take r ++ l.drop (r + 1)) := by
      unfold slices_DeleteR delF
      rw [w64_succ (by omega)]
      rw [dcT (Int.natCast_nonneg r), dcT (show (r : Int) < ((r + 1 : Nat) : Int) from by omega), dcT (show ((r + 1 : Nat) : Int) ≤ Int.ofNat l.length from by have : Int.ofNat l.length = (l.length : Int) := rfl; omega)]
      rfl
    refine .inr ⟨l.take r ++ l.drop (r + 1), ?_, ⟨fun x hx => h.1 x (hs.subset hx), h.2.sublist hs⟩, ?_, fun x hx => hs.subset hx⟩
    · simp only [cond_true, hd, Option.bind_some]
    · rw [List.length_append, List.length_take, List.length_drop]; omega
  · rw [dcF hf]
    exact .inl ⟨6, by decide, rfl⟩
def longR (r : GRange) (o : Int) : GRange := (r.1, r.2.1, r.2.2.1, r.2.2.2.1, o)
theorem RightR.set {l : List GRange} (h : RightR l) {j : Nat} (hj : j < l.length) {o : Int} (ho : 0 ≤ o ∧ o ≤ 2147483647) : RightR (l.set j (longR l[j] o)) := by
  constructor
  · intro c hc
    rcases List.mem_or_eq_of_mem_set hc with h1 | rfl
    · exact h.1 c h1
    · have := h.1 _ (List.getElem_mem hj)
      unfold ranB longR at *
      simp only [Bool.and_eq_true, decide_eq_true_eq] at this ⊢
      exact ⟨this.1, ho⟩
  · have h2 := List.pairwise_iff_getElem.1 h.2
    rw [List.pairwise_iff_getElem]
    intro p q hp hq hpq
    rw [List.length_set] at hp hq
    have := h2 p q hp hq hpq
    rw [List.getElem_set, List.getElem_set]
    split
    · rename_i e
      subst e
      rw [if_neg (by omega)]
      exact this
    · split
      · rename_i e
        subst e
        exact this
      · exact this
theorem ChangeR_cases {l : List GRange} (h : RightR l) (hl : l.length ≤ 5000) (c : GRange) (k : Nat) (hk : l.length + 6 < k) :
    (∃ e, e ≠ 0 ∧ ranges_Change k (l, c) = some (l, e)) ∨ ∃ j, ∃ hj : j < l.length, ranges_Change k (l, c) = some (l.set j (longR l[j] c.2.2.2.2), 0) ∧ RightR (l.set j (longR l[j] c.2.2.2.2)) := by
  obtain ⟨r, r1, r2, r3, r4⟩ := BSR_spec l c k (by omega) h.sort hk
  unfold ranges_Change
  simp only [CloneR_spec l k (by omega), r4, Option.bind_some]
  by_cases hf : r < l.length ∧ cmpR (l.getD r z56) c = 0
  · rw [dcT hf]
    by_cases h1 : c.2.2.2.2 < 0
    · rw [dcT h1]; exact .inl ⟨1, by decide, rfl⟩
    by_cases h2 : 2147483647 < c.2.2.2.2
    · rw [dcF h1, dcT h2]; exact .inl ⟨1, by decide, rfl⟩
    have hj := hf.1
    refine .inr ⟨r, hj, ?_, h.set hj (by omega)⟩
    rw [dcF h1, dcF h2]
    simp only [cond_true, cond_false, Int.toNat_natCast]
    rw [i_lt, dcT hj, dcT (Int.natCast_nonneg r)]
    simp only [cond_true]
    rw [getR hj]
    rfl
  · rw [dcF hf]
    by_cases h1 : c.2.2.2.2 < 0
    · rw [dcT h1]; exact .inl ⟨1, by decide, rfl⟩
    by_cases h2 : 2147483647 < c.2.2.2.2
    · rw [dcF h1, dcT h2]; exact .inl ⟨1, by decide, rfl⟩
    rw [dcF h1, dcF h2]; exact .inl ⟨6, by decide, rfl⟩
end Ex
namespace Ex
open Go
theorem slices_Insert_one (l : List GContact) (c : GContact) (r k : Nat) (hs : l.length ≤ 1000000000) (hr : r ≤ l.length) : slices_Insert k l ((r : Int), [c]) = some (insAt l r c) := by
  unfold slices_Insert insF insAt
  rw [dcT (Int.natCast_nonneg r), dcT (show (r : Int) ≤ Int.ofNat l.length from by have : Int.ofNat l.length = (l.length : Int) := rfl; omega), dcT (show (l.length + [c].length) * 48 ≤ 140737488355328 from by simp only [List.length_cons, List.length_nil]; omega)]
  simp
def AddR (l : List GContact) (c : GContact) (r : Nat) : List GContact × Int := if conB c = false then (l, 1) else if 4096 ≤ l.length then (l, 3) else if (l.any fun x => decide (x.1 = c.1)) = true then (l, 4) else if (l.any fun x => ovB x c) = true then (l, 5) else (insAt l r c, 0)
theorem contacts_Add_spec (l : List GContact) (c : GContact) (k : Nat) (hs : l.length ≤ 1000000000) (hc : rngC c) (hsort : ∀ i j, i < j → j < l.length → cmpC (l.getD i z28) (l.getD j z28) < 0) (hk : l.length + 6 < k) :
    ∃ r, r ≤ l.length ∧ (∀ q, q < r → cmpC (l.getD q z28) c < 0) ∧ (∀ q, r ≤ q → q < l.length → 0 ≤ cmpC (l.getD q z28) c) ∧ contacts_Add k (l, c) = some (AddR l c r) := by
  obtain ⟨r, h1, h2, h3, h4⟩ := BS_spec l c k hs hsort hk
  refine ⟨r, h1, h2, h3, ?_⟩
  unfold contacts_Add AddR
  simp only [Clone_spec l k hs, check_Contact_spec k c hc.1 hc.2, contacts_of_spec, ContainsFunc_of_spec l c.1 k (by omega) (by omega), ContainsFunc_ov_spec l c k (by omega) (by omega), h4, slices_Insert_one l c r k hs h1, Option.bind_some]
  cases conB c with
  | false => rfl
  | true =>
    rw [if_neg (by simp)]
    by_cases h5 : 4096 ≤ l.length
    · rw [if_pos h5, dcT (show (4096 : Int) ≤ Int.ofNat l.length from by have : Int.ofNat l.length = (l.length : Int) := rfl; omega)]; rfl
    · rw [if_neg h5, dcF (show ¬ (4096 : Int) ≤ Int.ofNat l.length from by have : Int.ofNat l.length = (l.length : Int) := rfl; omega)]
      simp only [cond_false, cond_true]
      cases (l.any fun x => decide (x.1 = c.1)) with
      | true => rfl
      | false =>
        rw [if_neg (by simp)]
        cases (l.any fun x => ovB x c) with
        | true => rfl
        | false =>
          rw [if_neg (by simp)]
          cases decide (r < l.length ∧ cmpC (l.getD r z28) c = 0) <;> rfl
theorem findC_any (l : List GContact) (id : Int) : (findC l id).2 = l.any fun c => decide (c.1 = id) := by
  unfold findC
  rw [Bool.eq_iff_iff, List.any_eq_true]
  cases h : l.find? (fun c => decide (c.1 = id)) with
  | none =>
    constructor
    · intro h'; cases h'
    · rintro ⟨x, hx, hp⟩
      have := List.find?_eq_none.1 h x hx
      exact absurd hp this
  | some c =>
    exact ⟨fun _ => ⟨c, List.mem_of_find?_eq_some h, List.find?_some (p := fun c : GContact => decide (c.1 = id)) h⟩, fun _ => rfl⟩
theorem any_ov {l : List GContact} {c : GContact} (hl : ∀ x ∈ l, conB x = true) (hc : conB c = true) : (l.any fun x => ovB x c) = l.any fun x => ovR x c := by
  rw [Bool.eq_iff_iff, List.any_eq_true, List.any_eq_true]
  constructor
  · rintro ⟨x, hx, h⟩; exact ⟨x, hx, (ov_iff (hl x hx) hc) ▸ h⟩
  · rintro ⟨x, hx, h⟩; exact ⟨x, hx, (ov_iff (hl x hx) hc).symm ▸ h⟩
theorem adds_same (l : List GContact) (c : GContact) (k : Nat) (hs : l.length ≤ 1000000000) (hc : rngC c) (hl : ∀ x ∈ l, conB x = true) (hsort : ∀ i j, i < j → j < l.length → cmpC (l.getD i z28) (l.getD j z28) < 0) (hk : l.length + 6 < k) : contacts_Add k (l, c) = rf06_Add k (l, c) := by
  obtain ⟨r, h1, h2, h3, h4⟩ := contacts_Add_spec l c k hs hc hsort hk
  rw [h4, ref06_Add_spec l c r k hs h1 (fun q hq => by rw [less_cmp]; exact dcT (h2 q hq)) (fun q hq hq' => by rw [less_cmp]; exact dcF (by have := h3 q hq hq'; omega)) (by omega)]
  unfold AddR
  rw [findC_any]
  cases hcb : conB c with
  | false => rfl
  | true => rw [any_ov hl hcb]
end Ex
namespace Ex
open Go
theorem rng_of {c : GContact} (h : okvT kGContact c) : rngC c := by
  simp only [okvT, SK.okv, Lit.wf, Bool.and_eq_true, decide_eq_true_eq] at h
  unfold rngC
  have e1 : IntKind.i64.min = -9223372036854775808 := by decide
  have e2 : IntKind.i64.max = 9223372036854775807 := by decide
  omega
def RR (a b : GContact) : Prop := cmpC a b < 0 ∧ a.1 ≠ b.1 ∧ (a.2.1 = b.2.1 → a.2.2.1 = b.2.2.1 → a.2.2.2.2.1 ≤ b.2.2.2.1)
def RightT (l : List GContact) : Prop := (∀ c ∈ l, conB c = true) ∧ l.Pairwise RR
theorem getD_get {l : List GContact} {i : Nat} (h : i < l.length) : l.getD i z28 = l[i] := by rw [List.getD_eq_getElem?_getD, List.getElem?_eq_getElem h]; rfl
theorem right_iff (l : List GContact) : chkR l l.length 0 = true ↔ RightT l := by
  rw [chkR_all]
  constructor
  · intro h
    have h' : ∀ q, q < l.length → okAt l q = true := fun q hq => h q (Nat.zero_le _) (by omega)
    refine ⟨fun c hc => ?_, ?_⟩
    · obtain ⟨q, hq, rfl⟩ := List.mem_iff_getElem.1 hc
      have := h' q hq
      unfold okAt at this
      simp only [Bool.and_eq_true] at this
      rw [getD_get hq] at this
      exact this.1
    · rw [List.pairwise_iff_getElem]
      intro i j hi hj hij
      obtain ⟨p1, p2⟩ := right_pairs (Nat.le_refl _) h' j hj i hij
      rw [getD_get hi, getD_get hj] at p1 p2
      refine ⟨p1, fun e => ?_, p2⟩
      have := h' j hj
      unfold okAt at this
      simp only [Bool.and_eq_true, Bool.not_eq_true', decide_eq_false_iff_not] at this
      refine this.2.1 ((mem_take_ids (by omega) _).2 ⟨i, hij, ?_⟩)
      rw [getD_get hi, getD_get hj]
      exact e
  · rintro ⟨h1, h2⟩ q _ hq
    have hq : q < l.length := by omega
    rw [List.pairwise_iff_getElem] at h2
    unfold okAt
    simp only [Bool.and_eq_true, Bool.not_eq_true', decide_eq_false_iff_not]
    refine ⟨by rw [getD_get hq]; exact h1 _ (List.getElem_mem hq), fun hm => ?_, ?_⟩
    · obtain ⟨j, hj, e⟩ := (mem_take_ids (by omega) _).1 hm
      rw [getD_get (by omega), getD_get hq] at e
      exact (h2 j q (by omega) hq hj).2.1 e
    · by_cases h0 : 0 < q
      · rw [dcT h0]
        simp only [cond_true, Bool.and_eq_true, decide_eq_true_eq, Bool.not_eq_true']
        have hq1 : q - 1 < l.length := by omega
        rw [getD_get hq1, getD_get hq]
        obtain ⟨a1, a2, a3⟩ := h2 (q - 1) q hq1 hq (by omega)
        refine ⟨a1, ?_⟩
        rw [ov_iff (h1 _ (List.getElem_mem hq1)) (h1 _ (List.getElem_mem hq)), ovR_false]
        rintro ⟨b1, b2, b3, b4⟩
        have := a3 b1 b2
        omega
      · rw [dcF h0]; rfl
theorem RightT.sort {l : List GContact} (h : RightT l) : ∀ i j, i < j → j < l.length → cmpC (l.getD i z28) (l.getD j z28) < 0 := fun i j hij hj => by
  have := (List.pairwise_iff_getElem.1 h.2) i j (by omega) hj hij
  rw [getD_get (by omega), getD_get hj]
  exact this.1
theorem RightT.rng {l : List GContact} (h : RightT l) : ∀ c ∈ l, rngC c := fun c hc => by
  have := h.1 c hc
  unfold conB spanB at this
  simp only [Bool.and_eq_true, decide_eq_true_eq] at this
  unfold rngC
  omega
def rightB (l : List GContact) : Bool := chkR l l.length 0 && decide (l.length ≤ 4096)
theorem Right_spec (l : List GContact) (k : Nat) (hs : l.length ≤ 1000000000) (hr : ∀ c ∈ l, rngC c) (hk : l.length + 5 < k) : contacts_Right k l = some (rightB l) := contacts_Right_spec0 l k hs hr hk
theorem refRight_spec (l : List GContact) (k : Nat) (hs : l.length ≤ 1000000000) (hk : 2 * l.length < k) : rf06_Right k l = some (rightB l) := by
  rw [ref06_Right_spec0 l k hs hk, ← chk_same]; rfl
theorem rightB_iff {l : List GContact} : rightB l = true ↔ RightT l ∧ l.length ≤ 4096 := by
  unfold rightB; rw [Bool.and_eq_true, right_iff, decide_eq_true_eq]
theorem RightT.ids {l : List GContact} (h : RightT l) : l.Pairwise fun a b => a.1 ≠ b.1 := h.2.imp fun h => h.2.1
theorem findC_mem {l : List GContact} (h : l.Pairwise fun a b => a.1 ≠ b.1) {c : GContact} (hc : c ∈ l) : findC l c.1 = (c, true) := by
  induction l with
  | nil => cases hc
  | cons x l ih =>
    rw [List.pairwise_cons] at h
    unfold findC
    rw [List.find?_cons]
    rcases List.mem_cons.1 hc with rfl | hc
    · rw [dcT rfl]
    · rw [dcF (h.1 c hc)]
      exact ih h.2 hc
theorem findC_some {l : List GContact} {id : Int} (h : (findC l id).2 = true) : (findC l id).1 ∈ l ∧ (findC l id).1.1 = id := by
  unfold findC at h ⊢
  cases hf : l.find? (fun c => decide (c.1 = id)) with
  | none => rw [hf] at h; cases h
  | some c =>
    exact ⟨List.mem_of_find?_eq_some hf, by have := List.find?_some hf; simpa using this⟩
theorem findC_false {l : List GContact} {id : Int} (h : (findC l id).2 = false) : findC l id = (z28, false) ∧ ∀ c ∈ l, c.1 ≠ id := by
  unfold findC at h ⊢
  cases hf : l.find? (fun c => decide (c.1 = id)) with
  | none => exact ⟨rfl, fun c hc e => by have := List.find?_eq_none.1 hf c hc; simp at this; exact this e⟩
  | some c => rw [hf] at h; cases h
theorem RightT.filter {l : List GContact} (h : RightT l) (p : GContact → Bool) : RightT (l.filter p) := ⟨fun c hc => h.1 c (List.mem_filter.1 hc).1, h.2.filter p⟩
theorem RightT.nil : RightT [] := ⟨fun c hc => (by cases hc), List.Pairwise.nil⟩
theorem con_rated {c : GContact} (h : conB c = true) {r : Int} (hr : 1 ≤ r ∧ r ≤ 2147483647) : conB (rated c r) = true := by
  unfold conB rated at *
  simp only [Bool.and_eq_true, decide_eq_true_eq] at h ⊢
  exact ⟨h.1, hr⟩
theorem RightT.set {l : List GContact} (h : RightT l) {j : Nat} (hj : j < l.length) {r : Int} (hr : 1 ≤ r ∧ r ≤ 2147483647) : RightT (l.set j (rated l[j] r)) := by
  constructor
  · intro c hc
    rcases List.mem_or_eq_of_mem_set hc with h1 | rfl
    · exact h.1 c h1
    · exact con_rated (h.1 _ (List.getElem_mem hj)) hr
  · have h2 := List.pairwise_iff_getElem.1 h.2
    rw [List.pairwise_iff_getElem]
    intro p q hp hq hpq
    rw [List.length_set] at hp hq
    have := h2 p q hp hq hpq
    rw [List.getElem_set, List.getElem_set]
    split
    · rename_i e
      subst e
      rw [if_neg (by omega)]
      exact this
    · split
      · rename_i e
        subst e
        exact this
      · exact this
theorem ins_mem {l : List GContact} {r : Nat} {c x : GContact} : x ∈ insAt l r c ↔ x = c ∨ x ∈ l := by
  unfold insAt
  rw [List.mem_append, List.mem_cons]
  have : x ∈ l ↔ x ∈ l.take r ∨ x ∈ l.drop r := by rw [← List.mem_append, List.take_append_drop]
  rw [this]
  constructor
  · rintro (h | h | h)
    · exact .inr (.inl h)
    · exact .inl h
    · exact .inr (.inr h)
  · rintro (h | h | h)
    · exact .inr (.inl h)
    · exact .inl h
    · exact .inr (.inr h)
theorem ins_len {l : List GContact} {r : Nat} {c : GContact} : (insAt l r c).length = l.length + 1 := by
  unfold insAt
  rw [List.length_append, List.length_cons, List.length_take, List.length_drop]; omega
theorem RightT.ins {l : List GContact} (h : RightT l) {r : Nat} {c : GContact} (hr : r ≤ l.length) (h1 : ∀ q, q < r → cmpC (l.getD q z28) c < 0) (h2 : ∀ q, r ≤ q → q < l.length → 0 ≤ cmpC (l.getD q z28) c) (hc : conB c = true) (hid : ∀ x ∈ l, x.1 ≠ c.1) (hov : ∀ x ∈ l, ovB x c = false) : RightT (insAt l r c) := by
  constructor
  · intro x hx
    rcases ins_mem.1 hx with rfl | hx
    · exact hc
    · exact h.1 x hx
  · unfold insAt
    have hp := h.2
    rw [← List.take_append_drop r l] at hp
    rw [List.pairwise_append] at hp
    obtain ⟨p1, p2, p3⟩ := hp
    have t1 : ∀ x ∈ l.take r, cmpC x c < 0 := fun x hx => by
      obtain ⟨q, hq, rfl⟩ := List.mem_iff_getElem.1 hx
      have hq' : q < r := by rw [List.length_take] at hq; omega
      have := h1 q hq'
      rw [getD_get (by omega)] at this
      rw [List.getElem_take]
      exact this
    have t2 : ∀ x ∈ l.drop r, 0 ≤ cmpC x c := fun x hx => by
      obtain ⟨q, hq, rfl⟩ := List.mem_iff_getElem.1 hx
      have hq' : r + q < l.length := by rw [List.length_drop] at hq; omega
      have := h2 (r + q) (by omega) hq'
      rw [getD_get hq'] at this
      rw [List.getElem_drop]
      exact this
    have sc := con_span hc
    have o1 : ∀ x ∈ l.take r, RR x c := fun x hx => by
      have hm := List.mem_of_mem_take hx
      have hlt := t1 x hx
      refine ⟨hlt, hid x hm, fun e1 e2 => ?_⟩
      have := hov x hm
      rw [ov_iff (h.1 x hm) hc, ovR_false] at this
      rw [cmp_lt_iff] at hlt
      have sx := con_span (h.1 x hm)
      omega
    have o2 : ∀ x ∈ l.drop r, RR c x := fun x hx => by
      have hm := List.mem_of_mem_drop hx
      have hge := t2 x hx
      have hid' := hid x hm
      have hlt : cmpC c x < 0 := by
        rw [cmp_neg]
        have hne : cmpC x c ≠ 0 := fun e => by
          have h3 : ¬ cmpC x c < 0 := by omega
          have h4 : ¬ cmpC c x < 0 := by rw [cmp_neg]; omega
          rw [cmp_lt_iff] at h3 h4
          omega
        omega
      refine ⟨hlt, fun e => hid' e.symm, fun e1 e2 => ?_⟩
      have := hov x hm
      rw [ov_iff (h.1 x hm) hc, ovR_false] at this
      rw [cmp_lt_iff] at hlt
      have sx := con_span (h.1 x hm)
      omega
    rw [List.pairwise_append, List.pairwise_cons]
    refine ⟨p1, ⟨o2, p2⟩, fun a ha b hb => ?_⟩
    rcases List.mem_cons.1 hb with rfl | hb
    · exact o1 a ha
    · exact p3 a ha b hb
theorem Add_cases {l : List GContact} (h : RightT l) (hl : l.length ≤ 5000) (c : GContact) (hc : rngC c) (k : Nat) (hk : l.length + 6 < k) :
    (∃ e, e ≠ 0 ∧ contacts_Add k (l, c) = some (l, e)) ∨ ∃ r, contacts_Add k (l, c) = some (insAt l r c, 0) ∧ RightT (insAt l r c) ∧ conB c = true ∧ l.length < 4096 := by
  obtain ⟨r, r1, r2, r3, r4⟩ := contacts_Add_spec l c k (by omega) hc h.sort hk
  rw [r4]
  unfold AddR
  cases hb : conB c with
  | false => rw [if_pos rfl]; exact .inl ⟨1, by decide, rfl⟩
  | true =>
    rw [if_neg (by simp)]
    by_cases hful : 4096 ≤ l.length
    · rw [if_pos hful]; exact .inl ⟨3, by decide, rfl⟩
    rw [if_neg hful]
    cases hi : l.any (fun x => decide (x.1 = c.1)) with
    | true => rw [if_pos rfl]; exact .inl ⟨4, by decide, rfl⟩
    | false =>
      have hid : ∀ x ∈ l, x.1 ≠ c.1 := fun x hx e => by
        have := List.any_eq_false.1 hi x hx
        simp at this
        exact this e
      rw [if_neg (by simp)]
      cases ho : l.any (fun x => ovB x c) with
      | true => rw [if_pos rfl]; exact .inl ⟨5, by decide, rfl⟩
      | false =>
        have hov : ∀ x ∈ l, ovB x c = false := fun x hx => by
          have := List.any_eq_false.1 ho x hx
          simpa using this
        rw [if_neg (by simp)]
        exact .inr ⟨r, rfl, h.ins r1 r2 r3 hb hid hov, rfl, by omega⟩
theorem Change_cases {l : List GContact} (h : RightT l) (id rate : Int) :
    (∃ e, e ≠ 0 ∧ chgC l id rate = (l, e)) ∨ ∃ j, ∃ hj : j < l.length, l[j].1 = id ∧ chgC l id rate = (l.set j (rated l[j] rate), 0) ∧ RightT (l.set j (rated l[j] rate)) := by
  unfold chgC
  split
  · exact .inl ⟨1, by decide, rfl⟩
  · rename_i hr
    cases hf : l.findIdx? (fun c => decide (c.1 = id)) with
    | none => exact .inl ⟨6, by decide, rfl⟩
    | some j =>
      obtain ⟨hj, h1, h2⟩ := List.findIdx?_eq_some_iff_getElem.1 hf
      refine .inr ⟨j, hj, by simpa using h1, ?_, h.set hj (by omega)⟩
      have e : l.getD j (0, 0, 0, 0, 0, 0) = l[j] := getD_get hj
      simp only [e]
end Ex
namespace Ex
open Go
theorem rows_ok {s : List SK} {l : List (Tup s)} (h : SK.okv (.row s) l) : ∀ x ∈ l, okvT s x := by
  simp only [SK.okv] at h
  exact h.2
theorem cond_t {α : Type} {b : Bool} {x y r : α} (hb : b = true) (h : x = r) : (bif b then x else y) = r := by subst hb; exact h
theorem cond_f {α : Type} {b : Bool} {x y r : α} (hb : b = false) (h : y = r) : (bif b then x else y) = r := by subst hb; exact h
theorem bind_s {α β : Type} {o : Option α} {v : α} {f : α → Option β} {r : Option β} (ho : o = some v) (h : f v = r) : o.bind f = r := by subst ho; exact h
theorem Same_spec (a b : List GContact) (k : Nat) (hs : a.length ≤ 1000000000) (hk : a.length < k) : contacts_Same k (a, b) = some (decide (a = b)) := by
  unfold contacts_Same
  exact bind_s (Equal_spec a b k (by omega) hk) (by cases decide (a = b) <;> rfl)
theorem leftR_len (now : Int) (l : List GRange) : (leftR now l).length ≤ l.length := List.length_filter_le _ _
theorem sorted_len (l : List Int) : (sorted l).length = l.length := (sorted_perm l).length_eq
theorem rngR_of {r : GRange} (h : okvT kGRange r) : rngR r := by
  simp only [okvT, SK.okv, Lit.wf, Bool.and_eq_true, decide_eq_true_eq] at h
  unfold rngR
  have e1 : IntKind.i64.min = -9223372036854775808 := by decide
  have e2 : IntKind.i64.max = 9223372036854775807 := by decide
  omega
def dC (d : GDirective) : GContact := (d.2.2.1, d.2.2.2.1, d.2.2.2.2.1, d.2.2.2.2.2.1, d.2.2.2.2.2.2.1, d.2.2.2.2.2.2.2.1)
def dR (d : GDirective) : GRange := d.2.2.2.2.2.2.2.2
def rngD (d : GDirective) : Prop := rngC (dC d) ∧ rngR (dR d)
def mayB (d : GDirective) : Bool := bif !decide (d.1 = 1) then
    (bif decide (d.1 = 3) then (bif decide (d.2.1 = 1) then conB (d.2.2.1, 1, 2, 0, 1, d.2.2.2.2.2.2.2.1) else ranB ((dR d).1, (dR d).2.1, (dR d).2.2.1, 2147483647, (dR d).2.2.2.2))
      else (bif decide (d.2.1 = 1) then conB (d.2.2.1, 1, 2, 0, 1, mx d.2.2.2.2.2.2.2.1 1) else ranB ((dR d).1, (dR d).2.1, (dR d).2.2.1, 2147483647, (dR d).2.2.2.2)))
  else (bif decide (d.2.1 = 1) then conB (dC d) else ranB (dR d))
theorem bif_self (b : Bool) : (bif b then some true else some false) = some b := by cases b <;> rfl
theorem direct_may_spec (k : Nat) (d : GDirective) (h : rngD d) : direct_may k d = some (mayB d) := by
  unfold direct_may mayB
  have h1 : ∀ x y, check_Contact k (x, 1, 2, 0, 1, y) = some (conB (x, 1, 2, 0, 1, y)) := fun x y => check_Contact_spec k _ ⟨by simp only; omega, by simp only; omega⟩ ⟨by simp only; omega, by simp only; omega⟩
  have h2 : check_Range k ((dR d).1, (dR d).2.1, (dR d).2.2.1, 2147483647, (dR d).2.2.2.2) = some (ranB ((dR d).1, (dR d).2.1, (dR d).2.2.1, 2147483647, (dR d).2.2.2.2)) := check_Range_spec k _ ⟨h.2.1, by simp only; omega⟩
  have h3 : check_Contact k (dC d) = some (conB (dC d)) := check_Contact_spec k _ h.1.1 h.1.2
  have h4 : check_Range k (dR d) = some (ranB (dR d)) := check_Range_spec k _ h.2
  unfold dR at h2 h4
  unfold dC at h3
  simp only [h1, h2, h3, h4, Option.bind_some, bif_self]
  unfold dC dR
  cases decide (d.1 = 1) <;> cases decide (d.1 = 3) <;> cases decide (d.2.1 = 1) <;> rfl
theorem ex_cond {c : Bool} {x y : Option Bool} (h1 : ∃ b, x = some b) (h2 : ∃ b, y = some b) : ∃ b, (bif c then x else y) = some b := by
  cases c
  · exact h2
  · exact h1
theorem direct_Right_some (k : Nat) (d : GDirective) (h : rngD d) : ∃ b, direct_Right k d = some b := by
  unfold direct_Right
  simp only [direct_may_spec k d h, Option.bind_some, bif_self]
  repeat first | exact ⟨_, rfl⟩ | refine ex_cond ?_ ?_
theorem direct_add1 (k : Nat) (d : GDirective) (h : rngD d) (h1 : d.1 = 1) (h2 : d.2.1 = 1) : direct_Right k d = some (decide (dR d = z56) && conB (dC d)) := by
  unfold direct_Right
  simp only [direct_may_spec k d h, Option.bind_some, bif_self]
  have e : mayB d = conB (dC d) := by unfold mayB; rw [h1, h2]; rfl
  rw [e, h1, h2]
  refine cond_t rfl ?_
  have e2 : ((1 : Int) == 1 && ((1 : Int) == 1 && (d.2.2.1 == d.2.2.1 && (d.2.2.2.1 == d.2.2.2.1 && (d.2.2.2.2.1 == d.2.2.2.2.1 && (d.2.2.2.2.2.1 == d.2.2.2.2.2.1 && (d.2.2.2.2.2.2.1 == d.2.2.2.2.2.2.1 && d.2.2.2.2.2.2.2.1 == d.2.2.2.2.2.2.2.1)))) && (0 == d.2.2.2.2.2.2.2.2.1 && (0 == d.2.2.2.2.2.2.2.2.2.1 && (0 == d.2.2.2.2.2.2.2.2.2.2.1 && (0 == d.2.2.2.2.2.2.2.2.2.2.2.1 && 0 == d.2.2.2.2.2.2.2.2.2.2.2.2))))))) = decide (dR d = z56) := by
    have := eq5 z56 (dR d)
    unfold dR at *
    simp only [beq_self_eq_true, Bool.true_and]
    rw [Bool.eq_iff_iff] at *
    rw [this]
    simp only [decide_eq_true_eq]
    exact eq_comm
  rw [e2]
  cases decide (dR d = z56) <;> rfl
theorem direct_add2 (k : Nat) (d : GDirective) (h : rngD d) (h1 : d.1 = 1) (h2 : d.2.1 = 2) : direct_Right k d = some (decide (dC d = z28) && ranB (dR d)) := by
  unfold direct_Right
  simp only [direct_may_spec k d h, Option.bind_some, bif_self]
  have e : mayB d = ranB (dR d) := by unfold mayB; rw [h1, h2]; rfl
  rw [e, h1, h2]
  refine cond_f rfl (cond_f rfl (cond_f rfl (cond_t rfl ?_)))
  have e2 : ((1 : Int) == 1 && ((2 : Int) == 2 && (0 == d.2.2.1 && (0 == d.2.2.2.1 && (0 == d.2.2.2.2.1 && (0 == d.2.2.2.2.2.1 && (0 == d.2.2.2.2.2.2.1 && 0 == d.2.2.2.2.2.2.2.1)))) && (d.2.2.2.2.2.2.2.2.1 == d.2.2.2.2.2.2.2.2.1 && (d.2.2.2.2.2.2.2.2.2.1 == d.2.2.2.2.2.2.2.2.2.1 && (d.2.2.2.2.2.2.2.2.2.2.1 == d.2.2.2.2.2.2.2.2.2.2.1 && (d.2.2.2.2.2.2.2.2.2.2.2.1 == d.2.2.2.2.2.2.2.2.2.2.2.1 && d.2.2.2.2.2.2.2.2.2.2.2.2 == d.2.2.2.2.2.2.2.2.2.2.2.2))))))) = decide (dC d = z28) := by
    have := eq6 z28 (dC d)
    unfold dC at *
    simp only [beq_self_eq_true, Bool.true_and, Bool.and_true]
    rw [Bool.eq_iff_iff] at *
    rw [this]
    simp only [decide_eq_true_eq]
    exact eq_comm
  rw [e2]
  cases decide (dC d = z28) <;> rfl
def RightP (p : GPlan) : Prop := (0 ≤ p.2.2.1 ∧ p.2.2.1 ≤ 2147483647) ∧ (0 ≤ p.2.2.2 ∧ p.2.2.2 ≤ 1099511627776) ∧ (∀ c ∈ p.1, p.2.2.1 < c.2.2.2.2.1) ∧ (∀ r ∈ p.2.1, p.2.2.1 < r.2.2.2.1) ∧ (RightT p.1 ∧ p.1.length ≤ 4096) ∧ RightR p.2.1 ∧ p.2.1.length ≤ 4096
theorem plan_Right_spec (p : GPlan) (k : Nat) (h1 : p.1.length ≤ 5000) (h2 : p.2.1.length ≤ 5000) (h3 : ∀ c ∈ p.1, rngC c) (h4 : ∀ r ∈ p.2.1, rngR r) (hk : 12000 < k) : ∃ b, plan_Right k p = some b ∧ (b = true ↔ RightP p) := by
  unfold plan_Right
  simp only [r1_spec p.1 p k (by omega) (by omega), r2_spec p.2.1 p k (by omega) (by omega), Right_spec p.1 k (by omega) h3 (by omega), RightQ_spec p.2.1 k (by omega) h4 (by omega), Option.bind_some]
  unfold RightP
  by_cases g1 : p.2.2.1 < 0
  · rw [dcT g1]; exact ⟨false, rfl, fun h => (by cases h), fun h => (by omega)⟩
  by_cases g2 : 2147483647 < p.2.2.1
  · rw [dcF g1, dcT g2]; exact ⟨false, rfl, fun h => (by cases h), fun h => (by omega)⟩
  by_cases g3 : p.2.2.2 < 0
  · rw [dcF g1, dcF g2, dcT g3]; exact ⟨false, rfl, fun h => (by cases h), fun h => (by omega)⟩
  by_cases g4 : 1099511627776 < p.2.2.2
  · rw [dcF g1, dcF g2, dcF g3, dcT g4]; exact ⟨false, rfl, fun h => (by cases h), fun h => (by omega)⟩
  rw [dcF g1, dcF g2, dcF g3, dcF g4]
  simp only [cond_false]
  cases g5 : p.1.any (fun c => decide (c.2.2.2.2.1 ≤ p.2.2.1)) with
  | true =>
    refine ⟨false, rfl, fun h => (by cases h), fun h => ?_⟩
    obtain ⟨c, hc, hp⟩ := List.any_eq_true.1 g5
    have := h.2.2.1 c hc
    simp only [decide_eq_true_eq] at hp
    omega
  | false =>
    have g5' : ∀ c ∈ p.1, p.2.2.1 < c.2.2.2.2.1 := fun c hc => by
      have := List.any_eq_false.1 g5 c hc
      simp only [decide_eq_true_eq] at this
      omega
    cases g6 : p.2.1.any (fun c => decide (c.2.2.2.1 ≤ p.2.2.1)) with
    | true =>
      refine ⟨false, rfl, fun h => (by cases h), fun h => ?_⟩
      obtain ⟨c, hc, hp⟩ := List.any_eq_true.1 g6
      have := h.2.2.2.1 c hc
      simp only [decide_eq_true_eq] at hp
      omega
    | false =>
      have g6' : ∀ c ∈ p.2.1, p.2.2.1 < c.2.2.2.1 := fun c hc => by
        have := List.any_eq_false.1 g6 c hc
        simp only [decide_eq_true_eq] at this
        omega
      cases g7 : rightB p.1 with
      | false =>
        refine ⟨false, rfl, fun h => (by cases h), fun h => ?_⟩
        rw [rightB_iff.2 h.2.2.2.2.1] at g7; cases g7
      | true =>
        cases g8 : rightQ p.2.1 with
        | false =>
          refine ⟨false, rfl, fun h => (by cases h), fun h => ?_⟩
          rw [rightQ_iff.2 h.2.2.2.2.2] at g8; cases g8
        | true => exact ⟨true, rfl, fun _ => ⟨by omega, by omega, g5', g6', rightB_iff.1 g7, rightQ_iff.1 g8⟩, fun _ => rfl⟩
theorem RightR.rng {l : List GRange} (h : RightR l) : ∀ c ∈ l, rngR c := fun c hc => by
  have := h.1 c hc
  unfold ranB spanB at this
  simp only [Bool.and_eq_true, decide_eq_true_eq] at this
  unfold rngR
  omega
theorem Copy_spec (p : GPlan) (k : Nat) (h1 : p.1.length ≤ 1000000000) (h2 : p.2.1.length ≤ 1000000000) : plan_Copy k p = some p := by
  unfold plan_Copy
  simp only [Clone_spec p.1 k h1, CloneR_spec p.2.1 k h2, Option.bind_some]
theorem past_spec (k : Nat) (d : GDirective) (now : Int) : plan_past k (d, now) = some (decide (d.1 = 1) && decide (max (dC d).2.2.2.2.1 (dR d).2.2.2.1 ≤ now)) := by
  unfold plan_past dC dR
  have hx : ∀ x y : Int, mx x y = max x y := by intro x y; unfold mx; omega
  simp only [hx]
  cases decide (d.1 = 1) <;> cases decide (max d.2.2.2.2.2.2.1 d.2.2.2.2.2.2.2.2.2.2.2.1 ≤ now) <;> rfl
def nextV (v : Int) : Int := min (v + 1) 1099511627776
theorem mn_next {v : Int} (h0 : 0 ≤ v) (h1 : v ≤ 1099511627776) : mn (w64 (v + 1)) 1099511627776 = nextV v := by
  rw [w64_id (by omega) (by omega)]
  unfold mn nextV
  omega
theorem mem_set_ne {α : Type} {l : List α} {j : Nat} {x c : α} (hj : j < l.length) (hc : c ∈ l) (h : c ≠ l[j]) : c ∈ l.set j x := by
  obtain ⟨i, hi, rfl⟩ := List.mem_iff_getElem.1 hc
  have hij : j ≠ i := fun e => h (by subst e; rfl)
  exact List.mem_iff_getElem.2 ⟨i, by simpa using hi, by rw [List.getElem_set_ne hij]⟩
def KeptC (p : GPlan) (d : GDirective) (q : GPlan) : Prop := (d.1 = 2 ∧ d.2.1 = 1 ∧ q.1 = p.1.filter (keepC d.2.2.1)) ∨ (d.1 = 3 ∧ d.2.1 = 1 ∧ (∃ c ∈ q.1, c.1 = d.2.2.1) ∧ ∀ c ∈ p.1, c.1 ≠ d.2.2.1 → c ∈ q.1) ∨ (¬ ((d.1 = 2 ∨ d.1 = 3) ∧ d.2.1 = 1) ∧ ∀ c ∈ p.1, c ∈ q.1)
theorem Apply_cases {p : GPlan} (h : RightP p) (h1 : p.1.length ≤ 5000) (h2 : p.2.1.length ≤ 5000) (d : GDirective) (hd : rngD d) (k : Nat) (hk : 12000 < k) :
    (∃ e, e ≠ 0 ∧ plan_Apply k (p, d) = some (p, e)) ∨ ∃ q, plan_Apply k (p, d) = some (q, 0) ∧ RightP q ∧ q.2.2.1 = p.2.2.1 ∧ KeptC p d q := by
  obtain ⟨hc1, hv, hcl, hrl, hRT, hRR⟩ := h
  have hv1 := mn_next hv.1 hv.2
  have hnv : 0 ≤ nextV p.2.2.2 ∧ nextV p.2.2.2 ≤ 1099511627776 := by unfold nextV; omega
  unfold plan_Apply
  simp only [Copy_spec p k (by omega) (by omega), past_spec, Option.bind_some, hv1]
  obtain ⟨b, hb⟩ := direct_Right_some k d hd
  simp only [hb, Option.bind_some]
  cases b with
  | false => exact .inl ⟨1, by decide, rfl⟩
  | true =>
    simp only [cond_true]
    cases hp : decide (d.1 = 1) && decide (max (dC d).2.2.2.2.1 (dR d).2.2.2.1 ≤ p.2.2.1) with
    | true => exact .inl ⟨7, by decide, rfl⟩
    | false =>
      simp only [cond_false]
      have eC : (d.2.2.1, d.2.2.2.1, d.2.2.2.2.1, d.2.2.2.2.2.1, d.2.2.2.2.2.2.1, d.2.2.2.2.2.2.2.1) = dC d := rfl
      have eR : d.2.2.2.2.2.2.2.2 = dR d := rfl
      simp only [eC, eR]
      by_cases c11 : d.1 = 1 ∧ d.2.1 = 1
      · have e1 : (d.1 == 1 && d.2.1 == 1) = true := by simp [c11]
        rw [direct_add1 k d hd c11.1 c11.2] at hb
        have hb := Option.some.inj hb
        simp only [Bool.and_eq_true, decide_eq_true_eq] at hb
        rw [c11.1, hb.1] at hp
        simp only [decide_true, Bool.true_and, decide_eq_false_iff_not] at hp
        simp only [e1, cond_true]
        rcases Add_cases hRT.1 (by omega) (dC d) hd.1 k (by omega) with ⟨e, he, ha⟩ | ⟨r, ha, hR, _, hlt⟩
        · refine .inl ⟨e, he, ?_⟩
          simp [ha, he]
        · refine .inr ⟨(insAt p.1 r (dC d), p.2.1, p.2.2.1, nextV p.2.2.2), ?_, ⟨hc1, hnv, ?_, hrl, ⟨hR, ?_⟩, hRR⟩, rfl, .inr (.inr ⟨by omega, fun c hc => ins_mem.2 (.inr hc)⟩)⟩
          · simp [ha]
          · intro c hc
            rcases ins_mem.1 hc with rfl | hc
            · show p.2.2.1 < (dC d).2.2.2.2.1
              omega
            · exact hcl c hc
          · show (insAt p.1 r (dC d)).length ≤ 4096
            rw [ins_len]; omega
      have e1 : (d.1 == 1 && d.2.1 == 1) = false := by simpa using c11
      simp only [e1, cond_false]
      by_cases c21 : d.1 = 2 ∧ d.2.1 = 1
      · have e2 : (d.1 == 2 && d.2.1 == 1) = true := by simp [c21]
        simp only [e2, cond_true, contacts_Delete_spec p.1 d.2.2.1 k (by omega) (by omega), Option.bind_some]
        by_cases hl : (p.1.filter (keepC d.2.2.1)).length = p.1.length
        · refine .inl ⟨6, by decide, ?_⟩
          rw [if_pos hl]; rfl
        · rw [if_neg hl]
          have := List.length_filter_le (keepC d.2.2.1) p.1
          exact .inr ⟨(p.1.filter (keepC d.2.2.1), p.2.1, p.2.2.1, nextV p.2.2.2), rfl, ⟨hc1, hnv, fun c hc => hcl c (List.mem_filter.1 hc).1, hrl, ⟨hRT.1.filter _, Nat.le_trans this (by omega)⟩, hRR⟩, rfl, .inl ⟨c21.1, c21.2, rfl⟩⟩
      have e2 : (d.1 == 2 && d.2.1 == 1) = false := by simpa using c21
      simp only [e2, cond_false]
      by_cases c31 : d.1 = 3 ∧ d.2.1 = 1
      · have e3 : (d.1 == 3 && d.2.1 == 1) = true := by simp [c31]
        simp only [e3, cond_true, contacts_Change_spec p.1 d.2.2.1 d.2.2.2.2.2.2.2.1 k (by omega) (by omega), Option.bind_some]
        rcases Change_cases hRT.1 d.2.2.1 d.2.2.2.2.2.2.2.1 with ⟨e, he, ha⟩ | ⟨j, hj, hid, ha, hR⟩
        · refine .inl ⟨e, he, ?_⟩
          simp [ha, he]
        · refine .inr ⟨(p.1.set j (rated p.1[j] d.2.2.2.2.2.2.2.1), p.2.1, p.2.2.1, nextV p.2.2.2), by simp [ha], ⟨hc1, hnv, ?_, hrl, ⟨hR, by simp only [List.length_set]; omega⟩, hRR⟩, rfl, .inr (.inl ⟨c31.1, c31.2, ⟨_, List.mem_set hj _, hid⟩, fun c hc hne => mem_set_ne hj hc (fun e => hne (e ▸ hid))⟩)⟩
          intro c hc
          rcases List.mem_or_eq_of_mem_set hc with hm | rfl
          · exact hcl c hm
          · exact hcl p.1[j] (List.getElem_mem hj)
      have e3 : (d.1 == 3 && d.2.1 == 1) = false := by simpa using c31
      simp only [e3, cond_false]
      by_cases c12 : d.1 = 1 ∧ d.2.1 = 2
      · have e4 : (d.1 == 1 && d.2.1 == 2) = true := by simp [c12]
        rw [direct_add2 k d hd c12.1 c12.2] at hb
        have hb := Option.some.inj hb
        simp only [Bool.and_eq_true, decide_eq_true_eq] at hb
        rw [c12.1, hb.1] at hp
        simp only [decide_true, Bool.true_and, decide_eq_false_iff_not] at hp
        simp only [e4, cond_true]
        rcases AddR_cases hRR.1 (by omega) (dR d) hd.2 k (by omega) with ⟨e, he, ha⟩ | ⟨r, ha, hR, hlt⟩
        · refine .inl ⟨e, he, ?_⟩
          simp [ha, he]
        · refine .inr ⟨(p.1, insR p.2.1 r (dR d), p.2.2.1, nextV p.2.2.2), ?_, ⟨hc1, hnv, hcl, ?_, hRT, hR, ?_⟩, rfl, .inr (.inr ⟨by omega, fun c hc => hc⟩)⟩
          · simp [ha]
          · intro c hc
            rcases insR_mem.1 hc with rfl | hc
            · show p.2.2.1 < (dR d).2.2.2.1
              omega
            · exact hrl c hc
          · show (insR p.2.1 r (dR d)).length ≤ 4096
            rw [insR_len]; omega
      have e4 : (d.1 == 1 && d.2.1 == 2) = false := by simpa using c12
      simp only [e4, cond_false]
      by_cases c22 : d.1 = 2 ∧ d.2.1 = 2
      · have e5 : (d.1 == 2 && d.2.1 == 2) = true := by simp [c22]
        simp only [e5, cond_true]
        rcases DeleteR_cases hRR.1 (by omega) (dR d) k (by omega) with ⟨e, he, ha⟩ | ⟨l', ha, hR, hlen, hm⟩
        · refine .inl ⟨e, he, ?_⟩
          simp [ha, he]
        · exact .inr ⟨(p.1, l', p.2.2.1, nextV p.2.2.2), by simp [ha], ⟨hc1, hnv, hcl, fun c hc => hrl c (hm c hc), hRT, hR, by show l'.length ≤ 4096; omega⟩, rfl, .inr (.inr ⟨by omega, fun c hc => hc⟩)⟩
      have e5 : (d.1 == 2 && d.2.1 == 2) = false := by simpa using c22
      simp only [e5, cond_false]
      rcases ChangeR_cases hRR.1 (by omega) (dR d) k (by omega) with ⟨e, he, ha⟩ | ⟨j, hj, ha, hR⟩
      · refine .inl ⟨e, he, ?_⟩
        simp [ha, he]
      · refine .inr ⟨(p.1, p.2.1.set j (longR p.2.1[j] (dR d).2.2.2.2), p.2.2.1, nextV p.2.2.2), by simp [ha], ⟨hc1, hnv, hcl, ?_, hRT, hR, by simp only [List.length_set]; omega⟩, rfl, .inr (.inr ⟨by omega, fun c hc => hc⟩)⟩
        intro c hc
        rcases List.mem_or_eq_of_mem_set hc with hm | rfl
        · exact hrl c hm
        · exact hrl p.2.1[j] (List.getElem_mem hj)
def advV (p : GPlan) (now : Int) : Int := if p.2.2.1 < now then nextV p.2.2.2 else p.2.2.2
def advP (p : GPlan) (now : Int) : GPlan := (leftC now p.1, leftR now p.2.1, now, advV p now)
theorem Advance_cases {p : GPlan} (h : RightP p) (h1 : p.1.length ≤ 5000) (h2 : p.2.1.length ≤ 5000) (now : Int) (k : Nat) (hk : 12000 < k) :
    plan_Advance k (p, now) = some (if now < p.2.2.1 ∨ 2147483647 < now then (p, [], 7) else (advP p now, sorted (goneC now p.1), 0)) := by
  obtain ⟨hc1, hv, _⟩ := h
  unfold plan_Advance advP advV
  simp only [Copy_spec p k (by omega) (by omega), contacts_Expire_spec p.1 now k (by omega) (by omega), ExpireR_spec p.2.1 now k (by omega) (by omega), Option.bind_some, mn_next hv.1 hv.2]
  by_cases g1 : now < p.2.2.1
  · rw [dcT g1, if_pos (.inl g1)]; rfl
  by_cases g2 : 2147483647 < now
  · rw [dcF g1, dcT g2, if_pos (.inr g2)]; rfl
  rw [dcF g1, dcF g2, if_neg (by omega)]
  by_cases g3 : p.2.2.1 < now
  · rw [dcT g3, if_pos g3]; rfl
  · rw [dcF g3, if_neg g3]; rfl
theorem advP_right {p : GPlan} (h : RightP p) {now : Int} (h0 : p.2.2.1 ≤ now) (h1 : now ≤ 2147483647) : RightP (advP p now) := by
  obtain ⟨hc1, hv, hcl, hrl, hRT, hRR⟩ := h
  refine ⟨⟨by show 0 ≤ now; omega, h1⟩, ?_, fun c hc => ?_, fun c hc => ?_, ⟨hRT.1.filter _, Nat.le_trans (leftC_len now p.1) hRT.2⟩, hRR.1.filter _, Nat.le_trans (leftR_len now p.2.1) hRR.2⟩
  · show 0 ≤ advV p now ∧ advV p now ≤ 1099511627776
    unfold advV nextV
    split <;> omega
  · have := (List.mem_filter.1 hc).2
    simp only [decide_eq_true_eq] at this
    exact this
  · have := (List.mem_filter.1 hc).2
    simp only [decide_eq_true_eq] at this
    exact this
end Ex
end Go.Proofs.YthlhbnaloefncaaGreatDoor
