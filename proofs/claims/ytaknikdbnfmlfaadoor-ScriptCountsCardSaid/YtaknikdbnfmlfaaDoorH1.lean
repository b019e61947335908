import Derived.Test.YtaknikdbnfmlfaaDoorF1
import Derived.Test.YtaknikdbnfmlfaaDoorArr
import Derived.Test.YtaknikdbnfmlfaaDoorRep
import Derived.Test.YtaknikdbnfmlfaaDoorStr
import Derived.Test.YtaknikdbnfmlfaaDoorBld
import Derived.Test.YtaknikdbnfmlfaaDoorForms
import Derived.Test.YtaknikdbnfmlfaaDoorFnd
import Derived.Test.YtaknikdbnfmlfaaDoorExY
import Derived.Test.YtaknikdbnfmlfaaDoorExAA
import Derived.Test.YtaknikdbnfmlfaaDoorExEE
import Derived.Test.YtaknikdbnfmlfaaDoorProg
namespace Go.Proofs.YtaknikdbnfmlfaaDoor.Ex
open Go
set_option linter.unusedVariables false
set_option maxHeartbeats 0
abbrev T39 := Int × Int × Int × Int × Int × Int × Int × Int × Int × Int
abbrev lT39 : List LK := [.sc (.int .u8), .sc (.int .u8), .sc (.int .u8), .sc (.int .u8), .sc (.int .u8), .sc (.int .u8), .sc (.int .u8), .sc (.int .u8), .sc (.int .u8), .sc (.int .u8)]
abbrev toT39 : List TL := [.sc (.int .u8), .sc (.int .u8), .sc (.int .u8), .sc (.int .u8), .sc (.int .u8), .sc (.int .u8), .sc (.int .u8), .sc (.int .u8), .sc (.int .u8), .sc (.int .u8)]
abbrev trT39 : List TL := [.sc (.int .u8), .sc (.int .u8), .sc (.int .u8), .sc (.int .u8), .sc (.int .u8), .sc (.int .u8), .sc (.int .u8), .sc (.int .u8), .sc (.int .u8), .sc (.int .u8)]
abbrev kT39 : List SK := [.int .u8, .int .u8, .int .u8, .int .u8, .int .u8, .int .u8, .int .u8, .int .u8, .int .u8, .int .u8]
abbrev GAct := Int × ByteArray × Int × Int × Int × Int × Int × Int × Int × Int × Int × Int × Int × Int × Int × Int × (List Int) × Int × Int × Int × Int × Int × Int × Int
abbrev lGAct : List LK := [.sc (.int .i64), .sc (.str), .sc (.int .i64), .sc (.int .i64), .sc (.int .i64), .sc (.int .i64), .sc (.int .i64), .sc (.int .i64), .sc (.int .i64), .sc (.int .i64), .sc (.int .i64), .sc (.int .i64), .sc (.int .i64), .sc (.int .i64), .sc (.int .i64), .sc (.int .i64), .row 3 [.int .i64], .sc (.int .i64), .sc (.int .i64), .sc (.int .i64), .sc (.int .i64), .sc (.int .i64), .sc (.int .i64), .sc (.int .i64)]
abbrev toGAct : List TL := [.sc (.int .i64), .sc (.str), .sc (.int .i64), .sc (.int .i64), .sc (.int .i64), .sc (.int .i64), .sc (.int .i64), .sc (.int .i64), .sc (.int .i64), .sc (.int .i64), .sc (.int .i64), .sc (.int .i64), .sc (.int .i64), .sc (.int .i64), .sc (.int .i64), .sc (.int .i64), .own 3 [.int .i64], .sc (.int .i64), .sc (.int .i64), .sc (.int .i64), .sc (.int .i64), .sc (.int .i64), .sc (.int .i64), .sc (.int .i64)]
abbrev trGAct : List TL := [.sc (.int .i64), .sc (.str), .sc (.int .i64), .sc (.int .i64), .sc (.int .i64), .sc (.int .i64), .sc (.int .i64), .sc (.int .i64), .sc (.int .i64), .sc (.int .i64), .sc (.int .i64), .sc (.int .i64), .sc (.int .i64), .sc (.int .i64), .sc (.int .i64), .sc (.int .i64), .ro [.int .i64], .sc (.int .i64), .sc (.int .i64), .sc (.int .i64), .sc (.int .i64), .sc (.int .i64), .sc (.int .i64), .sc (.int .i64)]
abbrev kGAct : List SK := [.int .i64, .str, .int .i64, .int .i64, .int .i64, .int .i64, .int .i64, .int .i64, .int .i64, .int .i64, .int .i64, .int .i64, .int .i64, .int .i64, .int .i64, .int .i64, .row [.int .i64], .int .i64, .int .i64, .int .i64, .int .i64, .int .i64, .int .i64, .int .i64]
/-! felucca/script.of -/
noncomputable def script_of_c : Code := Tryd.f58.body.getD .skip
def script_of (k : Nat) : (Int × Int) → Option (Int) := fun (c0, below) =>
  bif decide (below = 0) then
    none
  else
    some (w64 (1 + Int.tmod (w64 c0) below))
noncomputable def script_of_X : Cx Tryd.prog [.one (.sc (.int .i64))] := ⟨fun k => ⟨[], [], [hkArr Tryd.prog, hkStr Tryd.prog]⟩, Tryd.f58.ntmps, Tryd.f58.results, []⟩
theorem script_of_eq (k : Nat) (x : Int × Int) : script_of k x = runF script_of_X k script_of_c [.one (.sc (.int .u8)), .one (.sc (.int .i64))] x := by kernel_rfl
noncomputable def script_of_e (k : Nat) : Ent Tryd.prog := ⟨58, [.one (.sc (.int .u8)), .one (.sc (.int .i64))], [.one (.sc (.int .i64))], script_of k, calls_of (X := script_of_X) (k := k) (c := script_of_c) Tryd.func58 (by kernel_rfl) (by kernel_rfl) (by kernel_rfl) (LoopEqs.all (show LoopEqs script_of_X script_of_c script_of_X.L 0 from trivial)) (fun x => script_of_eq k x), fun _ _ => by kernel_rfl⟩
/-! felucca/script.Directive -/
noncomputable def script_Directive_c : Code := Tryd.f25.body.getD .skip
def script_Directive (k : Nat) : T39 → Option (GDirective) := fun (x0) =>
  (script_of k (x0.2.2.1, 16)).bind fun o_1 =>
    (script_of k (x0.2.2.2.2.2.2.2.1, 4)).bind fun o_2 =>
      (script_of k (x0.2.2.2.1, 4)).bind fun o_3 =>
        (script_of k (x0.2.2.2.2.1, 4)).bind fun o_4 =>
          bif decide (Int.tmod x0.2.1 6 = 0) then
            (script_of k (x0.2.2.2.2.2.2.1, 64)).bind fun o_6 =>
              some ((1, 1, o_1, o_3, o_4, Int.tmod (w64 x0.2.2.2.2.2.1) 64, w64 (Int.tmod (w64 x0.2.2.2.2.2.1) 64 + o_6), o_2, 0, 0, 0, 0, 0))
          else
            bif decide (Int.tmod x0.2.1 6 = 1) then
              (script_of k (x0.2.2.2.2.2.2.1, 64)).bind fun o_7 =>
                some ((1, 1, o_1, o_3, o_4, Int.tmod (w64 x0.2.2.2.2.2.1) 64, w64 (Int.tmod (w64 x0.2.2.2.2.2.1) 64 + o_7), o_2, 0, 0, 0, 0, 0))
            else
              bif decide (Int.tmod x0.2.1 6 = 2) then
                some ((1, 2, 0, 0, 0, 0, 0, 0, o_3, o_4, 0, w64 (1 + w64 x0.2.2.2.2.2.1), w64 (Int.tmod x0.2.2.2.2.2.2.1 8)))
              else
                bif decide (Int.tmod x0.2.1 6 = 3) then
                  some ((2, 1, o_1, 0, 0, 0, 0, 0, 0, 0, 0, 0, 0))
                else
                  bif decide (Int.tmod x0.2.1 6 = 4) then
                    some ((3, 1, o_1, 0, 0, 0, 0, o_2, 0, 0, 0, 0, 0))
                  else
                    bif decide (Int.tmod x0.2.1 6 = 5) then
                      some ((2, 2, 0, 0, 0, 0, 0, 0, o_3, o_4, 0, 0, 0))
                    else
                      some ((1, 1, 0, 0, 0, 0, 0, 0, 0, 0, 0, 0, 0))
noncomputable def script_Directive_X : Cx Tryd.prog [.agg lGDirective] := ⟨fun k => ⟨[script_of_e k], [], [hkArr Tryd.prog, hkStr Tryd.prog]⟩, Tryd.f25.ntmps, Tryd.f25.results, []⟩
theorem script_Directive_eq (k : Nat) (x : T39) : script_Directive k x = runF script_Directive_X k script_Directive_c [.agg lT39] x := by kernel_rfl
noncomputable def script_Directive_e (k : Nat) : Ent Tryd.prog := ⟨25, [.agg lT39], [.agg lGDirective], script_Directive k, calls_of (X := script_Directive_X) (k := k) (c := script_Directive_c) Tryd.func25 (by kernel_rfl) (by kernel_rfl) (by kernel_rfl) (LoopEqs.all (show LoopEqs script_Directive_X script_Directive_c script_Directive_X.L 0 from trivial)) (fun x => script_Directive_eq k x), fun _ _ => by kernel_rfl⟩
/-! felucca/feluccaref25.Directive -/
noncomputable def feluccaref25_Directive_c : Code := Tryd.f26.body.getD .skip
def feluccaref25_Directive (k : Nat) : T39 → Option (GDirective) := fun (x0) =>
  bif decide (Int.tmod x0.2.1 6 = 2) then
    some ((1, 2, 0, 0, 0, 0, 0, 0, w64 (1 + Int.tmod (w64 x0.2.2.2.1) 4), w64 (1 + Int.tmod (w64 x0.2.2.2.2.1) 4), 0, w64 (1 + w64 x0.2.2.2.2.2.1), Int.tmod (w64 x0.2.2.2.2.2.2.1) 8))
  else
    bif decide (Int.tmod x0.2.1 6 = 3) then
      some ((2, 1, w64 (1 + Int.tmod (w64 x0.2.2.1) 16), 0, 0, 0, 0, 0, 0, 0, 0, 0, 0))
    else
      bif decide (Int.tmod x0.2.1 6 = 4) then
        some ((3, 1, w64 (1 + Int.tmod (w64 x0.2.2.1) 16), 0, 0, 0, 0, w64 (1 + Int.tmod (w64 x0.2.2.2.2.2.2.2.1) 4), 0, 0, 0, 0, 0))
      else
        bif decide (Int.tmod x0.2.1 6 = 5) then
          some ((2, 2, 0, 0, 0, 0, 0, 0, w64 (1 + Int.tmod (w64 x0.2.2.2.1) 4), w64 (1 + Int.tmod (w64 x0.2.2.2.2.1) 4), 0, 0, 0))
        else
          some ((1, 1, w64 (1 + Int.tmod (w64 x0.2.2.1) 16), w64 (1 + Int.tmod (w64 x0.2.2.2.1) 4), w64 (1 + Int.tmod (w64 x0.2.2.2.2.1) 4), Int.tmod (w64 x0.2.2.2.2.2.1) 64, w64 (w64 (Int.tmod (w64 x0.2.2.2.2.2.1) 64 + 1) + Int.tmod (w64 x0.2.2.2.2.2.2.1) 64), w64 (1 + Int.tmod (w64 x0.2.2.2.2.2.2.2.1) 4), 0, 0, 0, 0, 0))
noncomputable def feluccaref25_Directive_X : Cx Tryd.prog [.agg lGDirective] := ⟨fun k => ⟨[], [], [hkArr Tryd.prog, hkStr Tryd.prog]⟩, Tryd.f26.ntmps, Tryd.f26.results, []⟩
theorem feluccaref25_Directive_eq (k : Nat) (x : T39) : feluccaref25_Directive k x = runF feluccaref25_Directive_X k feluccaref25_Directive_c [.agg lT39] x := by kernel_rfl
noncomputable def feluccaref25_Directive_e (k : Nat) : Ent Tryd.prog := ⟨26, [.agg lT39], [.agg lGDirective], feluccaref25_Directive k, calls_of (X := feluccaref25_Directive_X) (k := k) (c := feluccaref25_Directive_c) Tryd.func26 (by kernel_rfl) (by kernel_rfl) (by kernel_rfl) (LoopEqs.all (show LoopEqs feluccaref25_Directive_X feluccaref25_Directive_c feluccaref25_Directive_X.L 0 from trivial)) (fun x => feluccaref25_Directive_eq k x), fun _ _ => by kernel_rfl⟩
/-! felucca/script.Count -/
noncomputable def script_Count_c : Code := Tryd.f28.body.getD .skip
def script_Count_L0 : Nat → (Int × Int × (List GAct) × Int × Int) → Option ((Int) ⊕ (Int))
  | 0, _ => none
  | k + 1, (do1, n, t7, t8, t9) =>
  bif decide (t9 < t8) then
    bif decide (0 ≤ t9) then
      bif decide (t9 < Int.ofNat (List.length t7)) then
        bif decide ((List.getD t7 (Int.toNat t9) (0, (⟨#[]⟩ : ByteArray), 0, 0, 0, 0, 0, 0, 0, 0, 0, 0, 0, 0, 0, 0, [], 0, 0, 0, 0, 0, 0, 0)).1 = do1) then
          script_Count_L0 k (do1, w64 (n + 1), t7, t8, w64 (t9 + 1))
        else
          script_Count_L0 k (do1, n, t7, t8, w64 (t9 + 1))
      else
        none
    else
      none
  else
    some (Sum.inl n)
def script_Count (k : Nat) : ((List GAct) × Int) → Option (Int) := fun (l, do1) =>
  (script_Count_L0 k (do1, 0, l, Int.ofNat (List.length l), 0)).bind fun o_1 =>
    match o_1 with
    | .inl o_2 =>
      some (o_2)
    | .inr o_2 =>
      some (o_2)
noncomputable def script_Count_X : Cx Tryd.prog [.one (.sc (.int .i64))] := ⟨fun k => ⟨[], [], [hkArr Tryd.prog, hkStr Tryd.prog]⟩, Tryd.f28.ntmps, Tryd.f28.results, [some ⟨0, [(1, .one (.sc (.int .i64))), (4, .one (.sc (.int .i64))), (7, .one (.ro kGAct)), (8, .one (.sc (.int .i64))), (9, .one (.sc (.int .i64)))], [(4, .one (.sc (.int .i64)))], script_Count_L0⟩]⟩
theorem script_Count_L0_eq (k : Nat) (x : Int × Int × (List GAct) × Int × Int) : script_Count_L0 (k + 1) x = roundF script_Count_X k ⟨0, [(1, .one (.sc (.int .i64))), (4, .one (.sc (.int .i64))), (7, .one (.ro kGAct)), (8, .one (.sc (.int .i64))), (9, .one (.sc (.int .i64)))], [(4, .one (.sc (.int .i64)))], script_Count_L0⟩ 0 (lp script_Count_c 0) x := by kernel_rfl
theorem script_Count_eq (k : Nat) (x : (List GAct) × Int) : script_Count k x = runF script_Count_X k script_Count_c [.one (.row 45 kGAct), .one (.sc (.int .i64))] x := by kernel_rfl
noncomputable def script_Count_e (k : Nat) : Ent Tryd.prog := ⟨28, [.one (.row 45 kGAct), .one (.sc (.int .i64))], [.one (.sc (.int .i64))], script_Count k, calls_of (X := script_Count_X) (k := k) (c := script_Count_c) Tryd.func28 (by kernel_rfl) (by kernel_rfl) (by kernel_rfl) (LoopEqs.all (show LoopEqs script_Count_X script_Count_c script_Count_X.L 0 from ⟨⟨fun _ => rfl, fun k x => script_Count_L0_eq k x⟩, trivial⟩)) (fun x => script_Count_eq k x), fun _ _ => by kernel_rfl⟩
/-! felucca/feluccaref25.Count -/
noncomputable def feluccaref25_Count_c : Code := Tryd.f29.body.getD .skip
def feluccaref25_Count_L0 : Nat → ((List GAct) × Int × Int × Int) → Option ((Int) ⊕ (Int))
  | 0, _ => none
  | k + 1, (l, do1, n, i) =>
  bif decide (i < Int.ofNat (List.length l)) then
    bif decide (0 ≤ i) then
      bif decide (i < Int.ofNat (List.length l)) then
        bif decide ((List.getD l (Int.toNat i) (0, (⟨#[]⟩ : ByteArray), 0, 0, 0, 0, 0, 0, 0, 0, 0, 0, 0, 0, 0, 0, [], 0, 0, 0, 0, 0, 0, 0)).1 = do1) then
          feluccaref25_Count_L0 k (l, do1, w64 (n + 1), w64 (i + 1))
        else
          feluccaref25_Count_L0 k (l, do1, n, w64 (i + 1))
      else
        none
    else
      none
  else
    some (Sum.inl n)
def feluccaref25_Count (k : Nat) : ((List GAct) × Int) → Option (Int) := fun (l, do1) =>
  (feluccaref25_Count_L0 k (l, do1, 0, 0)).bind fun o_1 =>
    match o_1 with
    | .inl o_2 =>
      some (o_2)
    | .inr o_2 =>
      some (o_2)
noncomputable def feluccaref25_Count_X : Cx Tryd.prog [.one (.sc (.int .i64))] := ⟨fun k => ⟨[], [], [hkArr Tryd.prog, hkStr Tryd.prog]⟩, Tryd.f29.ntmps, Tryd.f29.results, [some ⟨0, [(0, .one (.ro kGAct)), (1, .one (.sc (.int .i64))), (5, .one (.sc (.int .i64))), (6, .one (.sc (.int .i64)))], [(5, .one (.sc (.int .i64)))], feluccaref25_Count_L0⟩]⟩
theorem feluccaref25_Count_L0_eq (k : Nat) (x : (List GAct) × Int × Int × Int) : feluccaref25_Count_L0 (k + 1) x = roundF feluccaref25_Count_X k ⟨0, [(0, .one (.ro kGAct)), (1, .one (.sc (.int .i64))), (5, .one (.sc (.int .i64))), (6, .one (.sc (.int .i64)))], [(5, .one (.sc (.int .i64)))], feluccaref25_Count_L0⟩ 0 (lp feluccaref25_Count_c 0) x := by kernel_rfl
theorem feluccaref25_Count_eq (k : Nat) (x : (List GAct) × Int) : feluccaref25_Count k x = runF feluccaref25_Count_X k feluccaref25_Count_c [.one (.row 45 kGAct), .one (.sc (.int .i64))] x := by kernel_rfl
noncomputable def feluccaref25_Count_e (k : Nat) : Ent Tryd.prog := ⟨29, [.one (.row 45 kGAct), .one (.sc (.int .i64))], [.one (.sc (.int .i64))], feluccaref25_Count k, calls_of (X := feluccaref25_Count_X) (k := k) (c := feluccaref25_Count_c) Tryd.func29 (by kernel_rfl) (by kernel_rfl) (by kernel_rfl) (LoopEqs.all (show LoopEqs feluccaref25_Count_X feluccaref25_Count_c feluccaref25_Count_X.L 0 from ⟨⟨fun _ => rfl, fun k x => feluccaref25_Count_L0_eq k x⟩, trivial⟩)) (fun x => feluccaref25_Count_eq k x), fun _ _ => by kernel_rfl⟩
/-! slices.Equal[[]int,int] -/
noncomputable def slices_Equal_int_int_c : Code := Tryd.f61.body.getD .skip
def slices_Equal_int_int_L0 : Nat → ((List Int) × (List Int) × Int × Int) → Option ((Unit) ⊕ (Bool))
  | 0, _ => none
  | k + 1, (s1, s2, t12, t13) =>
  bif decide (t13 < t12) then
    bif decide (0 ≤ t13) then
      bif decide (t13 < Int.ofNat (List.length s1)) then
        bif decide (0 ≤ t13) then
          bif decide (t13 < Int.ofNat (List.length s2)) then
            bif !decide (List.getD s1 (Int.toNat t13) 0 = List.getD s2 (Int.toNat t13) 0) then
              some (Sum.inr false)
            else
              slices_Equal_int_int_L0 k (s1, s2, t12, w64 (t13 + 1))
          else
            none
        else
          none
      else
        none
    else
      none
  else
    some (Sum.inl ())
def slices_Equal_int_int (k : Nat) : ((List Int) × (List Int)) → Option (Bool) := fun (s1, s2) =>
  bif !decide (Int.ofNat (List.length s1) = Int.ofNat (List.length s2)) then
    some (false)
  else
    (slices_Equal_int_int_L0 k (s1, s2, Int.ofNat (List.length s1), 0)).bind fun o_2 =>
      match o_2 with
      | .inl o_3 =>
        some (true)
      | .inr o_3 =>
        some (o_3)
noncomputable def slices_Equal_int_int_X : Cx Tryd.prog [.one (.sc (.bool))] := ⟨fun k => ⟨[], [], [hkArr Tryd.prog, hkStr Tryd.prog]⟩, Tryd.f61.ntmps, Tryd.f61.results, [some ⟨0, [(0, .one (.ro [.int .i64])), (1, .one (.ro [.int .i64])), (12, .one (.sc (.int .i64))), (13, .one (.sc (.int .i64)))], [], slices_Equal_int_int_L0⟩]⟩
theorem slices_Equal_int_int_L0_eq (k : Nat) (x : (List Int) × (List Int) × Int × Int) : slices_Equal_int_int_L0 (k + 1) x = roundF slices_Equal_int_int_X k ⟨0, [(0, .one (.ro [.int .i64])), (1, .one (.ro [.int .i64])), (12, .one (.sc (.int .i64))), (13, .one (.sc (.int .i64)))], [], slices_Equal_int_int_L0⟩ 0 (lp slices_Equal_int_int_c 0) x := by kernel_rfl
theorem slices_Equal_int_int_eq (k : Nat) (x : (List Int) × (List Int)) : slices_Equal_int_int k x = runF slices_Equal_int_int_X k slices_Equal_int_int_c [.one (.row 3 [.int .i64]), .one (.row 3 [.int .i64])] x := by kernel_rfl
noncomputable def slices_Equal_int_int_e (k : Nat) : Ent Tryd.prog := ⟨61, [.one (.row 3 [.int .i64]), .one (.row 3 [.int .i64])], [.one (.sc (.bool))], slices_Equal_int_int k, calls_of (X := slices_Equal_int_int_X) (k := k) (c := slices_Equal_int_int_c) Tryd.func61 (by kernel_rfl) (by kernel_rfl) (by kernel_rfl) (LoopEqs.all (show LoopEqs slices_Equal_int_int_X slices_Equal_int_int_c slices_Equal_int_int_X.L 0 from ⟨⟨fun _ => rfl, fun k x => slices_Equal_int_int_L0_eq k x⟩, trivial⟩)) (fun x => slices_Equal_int_int_eq k x), fun _ _ => by kernel_rfl⟩
/-! felucca/script.Same$1 -/
noncomputable def script_Same_1_c : Code := Tryd.f60.body.getD .skip
def script_Same_1 (k : Nat) : (GAct × GAct) → Option (Bool) := fun (x0, y1) =>
  bif decide (x0.1 = y1.1) then
    bif x0.2.1.data.toList == y1.2.1.data.toList then
      bif x0.2.2.1 == y1.2.2.1 && (x0.2.2.2.1 == y1.2.2.2.1 && (x0.2.2.2.2.1 == y1.2.2.2.2.1 && (x0.2.2.2.2.2.1 == y1.2.2.2.2.2.1 && (x0.2.2.2.2.2.2.1 == y1.2.2.2.2.2.2.1 && (x0.2.2.2.2.2.2.2.1 == y1.2.2.2.2.2.2.2.1 && (x0.2.2.2.2.2.2.2.2.1 == y1.2.2.2.2.2.2.2.2.1 && x0.2.2.2.2.2.2.2.2.2.1 == y1.2.2.2.2.2.2.2.2.2.1)))) && (x0.2.2.2.2.2.2.2.2.2.2.1 == y1.2.2.2.2.2.2.2.2.2.2.1 && (x0.2.2.2.2.2.2.2.2.2.2.2.1 == y1.2.2.2.2.2.2.2.2.2.2.2.1 && (x0.2.2.2.2.2.2.2.2.2.2.2.2.1 == y1.2.2.2.2.2.2.2.2.2.2.2.2.1 && (x0.2.2.2.2.2.2.2.2.2.2.2.2.2.1 == y1.2.2.2.2.2.2.2.2.2.2.2.2.2.1 && x0.2.2.2.2.2.2.2.2.2.2.2.2.2.2.1 == y1.2.2.2.2.2.2.2.2.2.2.2.2.2.2.1)))))) then
        bif decide (x0.2.2.2.2.2.2.2.2.2.2.2.2.2.2.2.1 = y1.2.2.2.2.2.2.2.2.2.2.2.2.2.2.2.1) then
          bif x0.2.2.2.2.2.2.2.2.2.2.2.2.2.2.2.2.2.2.2.1 == y1.2.2.2.2.2.2.2.2.2.2.2.2.2.2.2.2.2.2.2.1 && (x0.2.2.2.2.2.2.2.2.2.2.2.2.2.2.2.2.2.2.2.2.1 == y1.2.2.2.2.2.2.2.2.2.2.2.2.2.2.2.2.2.2.2.2.1 && (x0.2.2.2.2.2.2.2.2.2.2.2.2.2.2.2.2.2.2.2.2.2.1 == y1.2.2.2.2.2.2.2.2.2.2.2.2.2.2.2.2.2.2.2.2.2.1 && (x0.2.2.2.2.2.2.2.2.2.2.2.2.2.2.2.2.2.2.2.2.2.2.1 == y1.2.2.2.2.2.2.2.2.2.2.2.2.2.2.2.2.2.2.2.2.2.2.1 && x0.2.2.2.2.2.2.2.2.2.2.2.2.2.2.2.2.2.2.2.2.2.2.2 == y1.2.2.2.2.2.2.2.2.2.2.2.2.2.2.2.2.2.2.2.2.2.2.2))) then
            bif decide (x0.2.2.2.2.2.2.2.2.2.2.2.2.2.2.2.2.2.1 = y1.2.2.2.2.2.2.2.2.2.2.2.2.2.2.2.2.2.1) then
              bif decide (x0.2.2.2.2.2.2.2.2.2.2.2.2.2.2.2.2.2.2.1 = y1.2.2.2.2.2.2.2.2.2.2.2.2.2.2.2.2.2.2.1) then
                (slices_Equal_int_int k (x0.2.2.2.2.2.2.2.2.2.2.2.2.2.2.2.2.1, y1.2.2.2.2.2.2.2.2.2.2.2.2.2.2.2.2.1)).bind fun o_8 =>
                  bif o_8 then
                    some (true)
                  else
                    some (false)
              else
                some (false)
            else
              some (false)
          else
            some (false)
        else
          some (false)
      else
        some (false)
    else
      some (false)
  else
    some (false)
noncomputable def script_Same_1_X : Cx Tryd.prog [.one (.sc (.bool))] := ⟨fun k => ⟨[slices_Equal_int_int_e k], [], [hkArr Tryd.prog, hkStr Tryd.prog]⟩, Tryd.f60.ntmps, Tryd.f60.results, []⟩
theorem script_Same_1_eq (k : Nat) (x : GAct × GAct) : script_Same_1 k x = runF script_Same_1_X k script_Same_1_c [.agg lGAct, .agg lGAct] x := by kernel_rfl
noncomputable def script_Same_1_e (k : Nat) : Ent Tryd.prog := ⟨60, [.agg lGAct, .agg lGAct], [.one (.sc (.bool))], script_Same_1 k, calls_of (X := script_Same_1_X) (k := k) (c := script_Same_1_c) Tryd.func60 (by kernel_rfl) (by kernel_rfl) (by kernel_rfl) (LoopEqs.all (show LoopEqs script_Same_1_X script_Same_1_c script_Same_1_X.L 0 from trivial)) (fun x => script_Same_1_eq k x), fun _ _ => by kernel_rfl⟩
/-! slices.EqualFunc[[]felucca/api.Act,[]felucca/api.Act,felucca/api.Act,felucca/api.Act] -/
noncomputable def EqualFunc_A_c : Code := Tryd.f59.body.getD .skip
def EqualFunc_A_L0 : Nat → ((List GAct) × Unit × (List GAct) × Int × Int) → Option ((Unit) ⊕ (Bool))
  | 0, _ => none
  | k + 1, (s2, eq, t15, t16, t17) =>
  bif decide (t17 < t16) then
    bif decide (0 ≤ t17) then
      bif decide (t17 < Int.ofNat (List.length t15)) then
        bif decide (0 ≤ t17) then
          bif decide (t17 < Int.ofNat (List.length s2)) then
            (script_Same_1 k (List.getD t15 (Int.toNat t17) (0, (⟨#[]⟩ : ByteArray), 0, 0, 0, 0, 0, 0, 0, 0, 0, 0, 0, 0, 0, 0, [], 0, 0, 0, 0, 0, 0, 0), List.getD s2 (Int.toNat t17) (0, (⟨#[]⟩ : ByteArray), 0, 0, 0, 0, 0, 0, 0, 0, 0, 0, 0, 0, 0, 0, [], 0, 0, 0, 0, 0, 0, 0))).bind fun o_6 =>
              bif o_6 then
                EqualFunc_A_L0 k (s2, (), t15, t16, w64 (t17 + 1))
              else
                some (Sum.inr false)
          else
            none
        else
          none
      else
        none
    else
      none
  else
    some (Sum.inl ())
def EqualFunc_A (k : Nat) : ((List GAct) × (List GAct) × Unit) → Option (Bool) := fun (s1, s2, eq) =>
  bif !decide (Int.ofNat (List.length s1) = Int.ofNat (List.length s2)) then
    some (false)
  else
    (EqualFunc_A_L0 k (s2, (), s1, Int.ofNat (List.length s1), 0)).bind fun o_2 =>
      match o_2 with
      | .inl o_3 =>
        some (true)
      | .inr o_3 =>
        some (o_3)
noncomputable def EqualFunc_A_X : Cx Tryd.prog [.one (.sc (.bool))] := ⟨fun k => ⟨[script_Same_1_e k], [], [hkArr Tryd.prog, hkStr Tryd.prog]⟩, Tryd.f59.ntmps, Tryd.f59.results, [some ⟨0, [(1, .one (.ro kGAct)), (2, .fnp 60 []), (15, .one (.ro kGAct)), (16, .one (.sc (.int .i64))), (17, .one (.sc (.int .i64)))], [], EqualFunc_A_L0⟩]⟩
theorem EqualFunc_A_L0_eq (k : Nat) (x : (List GAct) × Unit × (List GAct) × Int × Int) : EqualFunc_A_L0 (k + 1) x = roundF EqualFunc_A_X k ⟨0, [(1, .one (.ro kGAct)), (2, .fnp 60 []), (15, .one (.ro kGAct)), (16, .one (.sc (.int .i64))), (17, .one (.sc (.int .i64)))], [], EqualFunc_A_L0⟩ 0 (lp EqualFunc_A_c 0) x := by kernel_rfl
theorem EqualFunc_A_eq (k : Nat) (x : (List GAct) × (List GAct) × Unit) : EqualFunc_A k x = runF EqualFunc_A_X k EqualFunc_A_c [.one (.row 45 kGAct), .one (.row 45 kGAct), .one (.fnc 60 [])] x := by kernel_rfl
noncomputable def EqualFunc_A_e (k : Nat) : Ent Tryd.prog := ⟨59, [.one (.row 45 kGAct), .one (.row 45 kGAct), .one (.fnc 60 [])], [.one (.sc (.bool))], EqualFunc_A k, calls_of (X := EqualFunc_A_X) (k := k) (c := EqualFunc_A_c) Tryd.func59 (by kernel_rfl) (by kernel_rfl) (by kernel_rfl) (LoopEqs.all (show LoopEqs EqualFunc_A_X EqualFunc_A_c EqualFunc_A_X.L 0 from ⟨⟨fun _ => rfl, fun k x => EqualFunc_A_L0_eq k x⟩, trivial⟩)) (fun x => EqualFunc_A_eq k x), fun _ _ => by kernel_rfl⟩
/-! felucca/script.Same -/
noncomputable def script_Same_c : Code := Tryd.f27.body.getD .skip
def script_Same (k : Nat) : ((List GAct) × (List GAct)) → Option (Bool) := fun (a, b) =>
  (EqualFunc_A k (a, b, ())).bind fun o_1 =>
    bif o_1 then
      some (true)
    else
      some (false)
noncomputable def script_Same_X : Cx Tryd.prog [.one (.sc (.bool))] := ⟨fun k => ⟨[EqualFunc_A_e k, script_Same_1_e k], [], [hkArr Tryd.prog, hkStr Tryd.prog]⟩, Tryd.f27.ntmps, Tryd.f27.results, []⟩
theorem script_Same_eq (k : Nat) (x : (List GAct) × (List GAct)) : script_Same k x = runF script_Same_X k script_Same_c [.one (.row 45 kGAct), .one (.row 45 kGAct)] x := by kernel_rfl
noncomputable def script_Same_e (k : Nat) : Ent Tryd.prog := ⟨27, [.one (.row 45 kGAct), .one (.row 45 kGAct)], [.one (.sc (.bool))], script_Same k, calls_of (X := script_Same_X) (k := k) (c := script_Same_c) Tryd.func27 (by kernel_rfl) (by kernel_rfl) (by kernel_rfl) (LoopEqs.all (show LoopEqs script_Same_X script_Same_c script_Same_X.L 0 from trivial)) (fun x => script_Same_eq k x), fun _ _ => by kernel_rfl⟩
/-! felucca/feluccaref25.Same -/
noncomputable def feluccaref25_Same_c : Code := Tryd.f24.body.getD .skip
def feluccaref25_Same_L0 : Nat → ((List GAct) × (List GAct) × Int) → Option ((Unit) ⊕ (Bool))
  | 0, _ => none
  | k + 1, (a, b, i) =>
  bif decide (i < Int.ofNat (List.length a)) then
    bif decide (0 ≤ i) then
      bif decide (i < Int.ofNat (List.length a)) then
        bif decide (0 ≤ i) then
          bif decide (i < Int.ofNat (List.length b)) then
            bif !decide ((List.getD a (Int.toNat i) (0, (⟨#[]⟩ : ByteArray), 0, 0, 0, 0, 0, 0, 0, 0, 0, 0, 0, 0, 0, 0, [], 0, 0, 0, 0, 0, 0, 0)).1 = (List.getD b (Int.toNat i) (0, (⟨#[]⟩ : ByteArray), 0, 0, 0, 0, 0, 0, 0, 0, 0, 0, 0, 0, 0, 0, [], 0, 0, 0, 0, 0, 0, 0)).1) then
              some (Sum.inr false)
            else
              bif !(List.getD a (Int.toNat i) (0, (⟨#[]⟩ : ByteArray), 0, 0, 0, 0, 0, 0, 0, 0, 0, 0, 0, 0, 0, 0, [], 0, 0, 0, 0, 0, 0, 0)).2.1.data.toList == (List.getD b (Int.toNat i) (0, (⟨#[]⟩ : ByteArray), 0, 0, 0, 0, 0, 0, 0, 0, 0, 0, 0, 0, 0, 0, [], 0, 0, 0, 0, 0, 0, 0)).2.1.data.toList then
                some (Sum.inr false)
              else
                bif !((List.getD a (Int.toNat i) (0, (⟨#[]⟩ : ByteArray), 0, 0, 0, 0, 0, 0, 0, 0, 0, 0, 0, 0, 0, 0, [], 0, 0, 0, 0, 0, 0, 0)).2.2.1 == (List.getD b (Int.toNat i) (0, (⟨#[]⟩ : ByteArray), 0, 0, 0, 0, 0, 0, 0, 0, 0, 0, 0, 0, 0, 0, [], 0, 0, 0, 0, 0, 0, 0)).2.2.1 && ((List.getD a (Int.toNat i) (0, (⟨#[]⟩ : ByteArray), 0, 0, 0, 0, 0, 0, 0, 0, 0, 0, 0, 0, 0, 0, [], 0, 0, 0, 0, 0, 0, 0)).2.2.2.1 == (List.getD b (Int.toNat i) (0, (⟨#[]⟩ : ByteArray), 0, 0, 0, 0, 0, 0, 0, 0, 0, 0, 0, 0, 0, 0, [], 0, 0, 0, 0, 0, 0, 0)).2.2.2.1 && ((List.getD a (Int.toNat i) (0, (⟨#[]⟩ : ByteArray), 0, 0, 0, 0, 0, 0, 0, 0, 0, 0, 0, 0, 0, 0, [], 0, 0, 0, 0, 0, 0, 0)).2.2.2.2.1 == (List.getD b (Int.toNat i) (0, (⟨#[]⟩ : ByteArray), 0, 0, 0, 0, 0, 0, 0, 0, 0, 0, 0, 0, 0, 0, [], 0, 0, 0, 0, 0, 0, 0)).2.2.2.2.1 && ((List.getD a (Int.toNat i) (0, (⟨#[]⟩ : ByteArray), 0, 0, 0, 0, 0, 0, 0, 0, 0, 0, 0, 0, 0, 0, [], 0, 0, 0, 0, 0, 0, 0)).2.2.2.2.2.1 == (List.getD b (Int.toNat i) (0, (⟨#[]⟩ : ByteArray), 0, 0, 0, 0, 0, 0, 0, 0, 0, 0, 0, 0, 0, 0, [], 0, 0, 0, 0, 0, 0, 0)).2.2.2.2.2.1 && ((List.getD a (Int.toNat i) (0, (⟨#[]⟩ : ByteArray), 0, 0, 0, 0, 0, 0, 0, 0, 0, 0, 0, 0, 0, 0, [], 0, 0, 0, 0, 0, 0, 0)).2.2.2.2.2.2.1 == (List.getD b (Int.toNat i) (0, (⟨#[]⟩ : ByteArray), 0, 0, 0, 0, 0, 0, 0, 0, 0, 0, 0, 0, 0, 0, [], 0, 0, 0, 0, 0, 0, 0)).2.2.2.2.2.2.1 && ((List.getD a (Int.toNat i) (0, (⟨#[]⟩ : ByteArray), 0, 0, 0, 0, 0, 0, 0, 0, 0, 0, 0, 0, 0, 0, [], 0, 0, 0, 0, 0, 0, 0)).2.2.2.2.2.2.2.1 == (List.getD b (Int.toNat i) (0, (⟨#[]⟩ : ByteArray), 0, 0, 0, 0, 0, 0, 0, 0, 0, 0, 0, 0, 0, 0, [], 0, 0, 0, 0, 0, 0, 0)).2.2.2.2.2.2.2.1 && ((List.getD a (Int.toNat i) (0, (⟨#[]⟩ : ByteArray), 0, 0, 0, 0, 0, 0, 0, 0, 0, 0, 0, 0, 0, 0, [], 0, 0, 0, 0, 0, 0, 0)).2.2.2.2.2.2.2.2.1 == (List.getD b (Int.toNat i) (0, (⟨#[]⟩ : ByteArray), 0, 0, 0, 0, 0, 0, 0, 0, 0, 0, 0, 0, 0, 0, [], 0, 0, 0, 0, 0, 0, 0)).2.2.2.2.2.2.2.2.1 && (List.getD a (Int.toNat i) (0, (⟨#[]⟩ : ByteArray), 0, 0, 0, 0, 0, 0, 0, 0, 0, 0, 0, 0, 0, 0, [], 0, 0, 0, 0, 0, 0, 0)).2.2.2.2.2.2.2.2.2.1 == (List.getD b (Int.toNat i) (0, (⟨#[]⟩ : ByteArray), 0, 0, 0, 0, 0, 0, 0, 0, 0, 0, 0, 0, 0, 0, [], 0, 0, 0, 0, 0, 0, 0)).2.2.2.2.2.2.2.2.2.1)))) && ((List.getD a (Int.toNat i) (0, (⟨#[]⟩ : ByteArray), 0, 0, 0, 0, 0, 0, 0, 0, 0, 0, 0, 0, 0, 0, [], 0, 0, 0, 0, 0, 0, 0)).2.2.2.2.2.2.2.2.2.2.1 == (List.getD b (Int.toNat i) (0, (⟨#[]⟩ : ByteArray), 0, 0, 0, 0, 0, 0, 0, 0, 0, 0, 0, 0, 0, 0, [], 0, 0, 0, 0, 0, 0, 0)).2.2.2.2.2.2.2.2.2.2.1 && ((List.getD a (Int.toNat i) (0, (⟨#[]⟩ : ByteArray), 0, 0, 0, 0, 0, 0, 0, 0, 0, 0, 0, 0, 0, 0, [], 0, 0, 0, 0, 0, 0, 0)).2.2.2.2.2.2.2.2.2.2.2.1 == (List.getD b (Int.toNat i) (0, (⟨#[]⟩ : ByteArray), 0, 0, 0, 0, 0, 0, 0, 0, 0, 0, 0, 0, 0, 0, [], 0, 0, 0, 0, 0, 0, 0)).2.2.2.2.2.2.2.2.2.2.2.1 && ((List.getD a (Int.toNat i) (0, (⟨#[]⟩ : ByteArray), 0, 0, 0, 0, 0, 0, 0, 0, 0, 0, 0, 0, 0, 0, [], 0, 0, 0, 0, 0, 0, 0)).2.2.2.2.2.2.2.2.2.2.2.2.1 == (List.getD b (Int.toNat i) (0, (⟨#[]⟩ : ByteArray), 0, 0, 0, 0, 0, 0, 0, 0, 0, 0, 0, 0, 0, 0, [], 0, 0, 0, 0, 0, 0, 0)).2.2.2.2.2.2.2.2.2.2.2.2.1 && ((List.getD a (Int.toNat i) (0, (⟨#[]⟩ : ByteArray), 0, 0, 0, 0, 0, 0, 0, 0, 0, 0, 0, 0, 0, 0, [], 0, 0, 0, 0, 0, 0, 0)).2.2.2.2.2.2.2.2.2.2.2.2.2.1 == (List.getD b (Int.toNat i) (0, (⟨#[]⟩ : ByteArray), 0, 0, 0, 0, 0, 0, 0, 0, 0, 0, 0, 0, 0, 0, [], 0, 0, 0, 0, 0, 0, 0)).2.2.2.2.2.2.2.2.2.2.2.2.2.1 && (List.getD a (Int.toNat i) (0, (⟨#[]⟩ : ByteArray), 0, 0, 0, 0, 0, 0, 0, 0, 0, 0, 0, 0, 0, 0, [], 0, 0, 0, 0, 0, 0, 0)).2.2.2.2.2.2.2.2.2.2.2.2.2.2.1 == (List.getD b (Int.toNat i) (0, (⟨#[]⟩ : ByteArray), 0, 0, 0, 0, 0, 0, 0, 0, 0, 0, 0, 0, 0, 0, [], 0, 0, 0, 0, 0, 0, 0)).2.2.2.2.2.2.2.2.2.2.2.2.2.2.1))))))) then
                  some (Sum.inr false)
                else
                  bif !decide ((List.getD a (Int.toNat i) (0, (⟨#[]⟩ : ByteArray), 0, 0, 0, 0, 0, 0, 0, 0, 0, 0, 0, 0, 0, 0, [], 0, 0, 0, 0, 0, 0, 0)).2.2.2.2.2.2.2.2.2.2.2.2.2.2.2.1 = (List.getD b (Int.toNat i) (0, (⟨#[]⟩ : ByteArray), 0, 0, 0, 0, 0, 0, 0, 0, 0, 0, 0, 0, 0, 0, [], 0, 0, 0, 0, 0, 0, 0)).2.2.2.2.2.2.2.2.2.2.2.2.2.2.2.1) then
                    some (Sum.inr false)
                  else
                    bif !decide ((List.getD a (Int.toNat i) (0, (⟨#[]⟩ : ByteArray), 0, 0, 0, 0, 0, 0, 0, 0, 0, 0, 0, 0, 0, 0, [], 0, 0, 0, 0, 0, 0, 0)).2.2.2.2.2.2.2.2.2.2.2.2.2.2.2.2.2.1 = (List.getD b (Int.toNat i) (0, (⟨#[]⟩ : ByteArray), 0, 0, 0, 0, 0, 0, 0, 0, 0, 0, 0, 0, 0, 0, [], 0, 0, 0, 0, 0, 0, 0)).2.2.2.2.2.2.2.2.2.2.2.2.2.2.2.2.2.1) then
                      some (Sum.inr false)
                    else
                      bif !decide ((List.getD a (Int.toNat i) (0, (⟨#[]⟩ : ByteArray), 0, 0, 0, 0, 0, 0, 0, 0, 0, 0, 0, 0, 0, 0, [], 0, 0, 0, 0, 0, 0, 0)).2.2.2.2.2.2.2.2.2.2.2.2.2.2.2.2.2.2.1 = (List.getD b (Int.toNat i) (0, (⟨#[]⟩ : ByteArray), 0, 0, 0, 0, 0, 0, 0, 0, 0, 0, 0, 0, 0, 0, [], 0, 0, 0, 0, 0, 0, 0)).2.2.2.2.2.2.2.2.2.2.2.2.2.2.2.2.2.2.1) then
                        some (Sum.inr false)
                      else
                        bif !((List.getD a (Int.toNat i) (0, (⟨#[]⟩ : ByteArray), 0, 0, 0, 0, 0, 0, 0, 0, 0, 0, 0, 0, 0, 0, [], 0, 0, 0, 0, 0, 0, 0)).2.2.2.2.2.2.2.2.2.2.2.2.2.2.2.2.2.2.2.1 == (List.getD b (Int.toNat i) (0, (⟨#[]⟩ : ByteArray), 0, 0, 0, 0, 0, 0, 0, 0, 0, 0, 0, 0, 0, 0, [], 0, 0, 0, 0, 0, 0, 0)).2.2.2.2.2.2.2.2.2.2.2.2.2.2.2.2.2.2.2.1 && ((List.getD a (Int.toNat i) (0, (⟨#[]⟩ : ByteArray), 0, 0, 0, 0, 0, 0, 0, 0, 0, 0, 0, 0, 0, 0, [], 0, 0, 0, 0, 0, 0, 0)).2.2.2.2.2.2.2.2.2.2.2.2.2.2.2.2.2.2.2.2.1 == (List.getD b (Int.toNat i) (0, (⟨#[]⟩ : ByteArray), 0, 0, 0, 0, 0, 0, 0, 0, 0, 0, 0, 0, 0, 0, [], 0, 0, 0, 0, 0, 0, 0)).2.2.2.2.2.2.2.2.2.2.2.2.2.2.2.2.2.2.2.2.1 && ((List.getD a (Int.toNat i) (0, (⟨#[]⟩ : ByteArray), 0, 0, 0, 0, 0, 0, 0, 0, 0, 0, 0, 0, 0, 0, [], 0, 0, 0, 0, 0, 0, 0)).2.2.2.2.2.2.2.2.2.2.2.2.2.2.2.2.2.2.2.2.2.1 == (List.getD b (Int.toNat i) (0, (⟨#[]⟩ : ByteArray), 0, 0, 0, 0, 0, 0, 0, 0, 0, 0, 0, 0, 0, 0, [], 0, 0, 0, 0, 0, 0, 0)).2.2.2.2.2.2.2.2.2.2.2.2.2.2.2.2.2.2.2.2.2.1 && ((List.getD a (Int.toNat i) (0, (⟨#[]⟩ : ByteArray), 0, 0, 0, 0, 0, 0, 0, 0, 0, 0, 0, 0, 0, 0, [], 0, 0, 0, 0, 0, 0, 0)).2.2.2.2.2.2.2.2.2.2.2.2.2.2.2.2.2.2.2.2.2.2.1 == (List.getD b (Int.toNat i) (0, (⟨#[]⟩ : ByteArray), 0, 0, 0, 0, 0, 0, 0, 0, 0, 0, 0, 0, 0, 0, [], 0, 0, 0, 0, 0, 0, 0)).2.2.2.2.2.2.2.2.2.2.2.2.2.2.2.2.2.2.2.2.2.2.1 && (List.getD a (Int.toNat i) (0, (⟨#[]⟩ : ByteArray), 0, 0, 0, 0, 0, 0, 0, 0, 0, 0, 0, 0, 0, 0, [], 0, 0, 0, 0, 0, 0, 0)).2.2.2.2.2.2.2.2.2.2.2.2.2.2.2.2.2.2.2.2.2.2.2 == (List.getD b (Int.toNat i) (0, (⟨#[]⟩ : ByteArray), 0, 0, 0, 0, 0, 0, 0, 0, 0, 0, 0, 0, 0, 0, [], 0, 0, 0, 0, 0, 0, 0)).2.2.2.2.2.2.2.2.2.2.2.2.2.2.2.2.2.2.2.2.2.2.2)))) then
                          some (Sum.inr false)
                        else
                          (feluccaref05_Ints k ((List.getD a (Int.toNat i) (0, (⟨#[]⟩ : ByteArray), 0, 0, 0, 0, 0, 0, 0, 0, 0, 0, 0, 0, 0, 0, [], 0, 0, 0, 0, 0, 0, 0)).2.2.2.2.2.2.2.2.2.2.2.2.2.2.2.2.1, (List.getD b (Int.toNat i) (0, (⟨#[]⟩ : ByteArray), 0, 0, 0, 0, 0, 0, 0, 0, 0, 0, 0, 0, 0, 0, [], 0, 0, 0, 0, 0, 0, 0)).2.2.2.2.2.2.2.2.2.2.2.2.2.2.2.2.1)).bind fun o_13 =>
                            bif o_13 then
                              feluccaref25_Same_L0 k (a, b, w64 (i + 1))
                            else
                              some (Sum.inr false)
          else
            none
        else
          none
      else
        none
    else
      none
  else
    some (Sum.inl ())
def feluccaref25_Same (k : Nat) : ((List GAct) × (List GAct)) → Option (Bool) := fun (a, b) =>
  bif !decide (Int.ofNat (List.length a) = Int.ofNat (List.length b)) then
    some (false)
  else
    (feluccaref25_Same_L0 k (a, b, 0)).bind fun o_2 =>
      match o_2 with
      | .inl o_3 =>
        some (true)
      | .inr o_3 =>
        some (o_3)
noncomputable def feluccaref25_Same_X : Cx Tryd.prog [.one (.sc (.bool))] := ⟨fun k => ⟨[feluccaref05_Ints_e k], [], [hkArr Tryd.prog, hkStr Tryd.prog]⟩, Tryd.f24.ntmps, Tryd.f24.results, [some ⟨0, [(0, .one (.ro kGAct)), (1, .one (.ro kGAct)), (5, .one (.sc (.int .i64)))], [], feluccaref25_Same_L0⟩]⟩
theorem feluccaref25_Same_L0_eq (k : Nat) (x : (List GAct) × (List GAct) × Int) : feluccaref25_Same_L0 (k + 1) x = roundF feluccaref25_Same_X k ⟨0, [(0, .one (.ro kGAct)), (1, .one (.ro kGAct)), (5, .one (.sc (.int .i64)))], [], feluccaref25_Same_L0⟩ 0 (lp feluccaref25_Same_c 0) x := by kernel_rfl
theorem feluccaref25_Same_eq (k : Nat) (x : (List GAct) × (List GAct)) : feluccaref25_Same k x = runF feluccaref25_Same_X k feluccaref25_Same_c [.one (.row 45 kGAct), .one (.row 45 kGAct)] x := by kernel_rfl
noncomputable def feluccaref25_Same_e (k : Nat) : Ent Tryd.prog := ⟨24, [.one (.row 45 kGAct), .one (.row 45 kGAct)], [.one (.sc (.bool))], feluccaref25_Same k, calls_of (X := feluccaref25_Same_X) (k := k) (c := feluccaref25_Same_c) Tryd.func24 (by kernel_rfl) (by kernel_rfl) (by kernel_rfl) (LoopEqs.all (show LoopEqs feluccaref25_Same_X feluccaref25_Same_c feluccaref25_Same_X.L 0 from ⟨⟨fun _ => rfl, fun k x => feluccaref25_Same_L0_eq k x⟩, trivial⟩)) (fun x => feluccaref25_Same_eq k x), fun _ _ => by kernel_rfl⟩
/-! felucca/feluccaref25.act -/
noncomputable def feluccaref25_act_c : Code := Tryd.f57.body.getD .skip
def feluccaref25_act (k : Nat) : T39 → Option (GAct) := fun (x0) =>
  bif decide (w64 (1 + Int.tmod (w64 x0.1) 7) = 1) then
    (feluccaref25_Directive k x0).bind fun o_2 =>
      bif decide (Int.tmod x0.2.2.2.2.2.2.2.2.1 2 = 1) then
        (feluccaref05_Print k ([o_2] ++ [o_2])).bind fun o_4 =>
          bif o_4.2 then
            some ((w64 (1 + Int.tmod (w64 x0.1) 7), o_4.1, 0, 0, 0, 0, 0, 0, 0, 0, 0, 0, 0, 0, 0, 0, [], 0, 0, 0, 0, 0, 0, 0))
          else
            some ((w64 (1 + Int.tmod (w64 x0.1) 7), (⟨#[120, 10]⟩ : ByteArray), 0, 0, 0, 0, 0, 0, 0, 0, 0, 0, 0, 0, 0, 0, [], 0, 0, 0, 0, 0, 0, 0))
      else
        (feluccaref05_Print k [o_2]).bind fun o_4 =>
          bif o_4.2 then
            some ((w64 (1 + Int.tmod (w64 x0.1) 7), o_4.1, 0, 0, 0, 0, 0, 0, 0, 0, 0, 0, 0, 0, 0, 0, [], 0, 0, 0, 0, 0, 0, 0))
          else
            some ((w64 (1 + Int.tmod (w64 x0.1) 7), (⟨#[120, 10]⟩ : ByteArray), 0, 0, 0, 0, 0, 0, 0, 0, 0, 0, 0, 0, 0, 0, [], 0, 0, 0, 0, 0, 0, 0))
  else
    bif decide (w64 (1 + Int.tmod (w64 x0.1) 7) = 2) then
      (feluccaref25_Directive k x0).bind fun o_3 =>
        some ((w64 (1 + Int.tmod (w64 x0.1) 7), (⟨#[]⟩ : ByteArray), o_3.1, o_3.2.1, o_3.2.2.1, o_3.2.2.2.1, o_3.2.2.2.2.1, o_3.2.2.2.2.2.1, o_3.2.2.2.2.2.2.1, o_3.2.2.2.2.2.2.2.1, o_3.2.2.2.2.2.2.2.2.1, o_3.2.2.2.2.2.2.2.2.2.1, o_3.2.2.2.2.2.2.2.2.2.2.1, o_3.2.2.2.2.2.2.2.2.2.2.2.1, o_3.2.2.2.2.2.2.2.2.2.2.2.2, 0, [], 0, 0, 0, 0, 0, 0, 0))
    else
      bif decide (w64 (1 + Int.tmod (w64 x0.1) 7) = 3) then
        some ((w64 (1 + Int.tmod (w64 x0.1) 7), (⟨#[]⟩ : ByteArray), 0, 0, 0, 0, 0, 0, 0, 0, 0, 0, 0, 0, 0, w64 x0.2.1, [], 0, 0, 0, 0, 0, 0, 0))
      else
        bif decide (w64 (1 + Int.tmod (w64 x0.1) 7) = 4) then
          bif decide (Int.tmod x0.2.2.1 2 = 1) then
            some ((w64 (1 + Int.tmod (w64 x0.1) 7), (⟨#[]⟩ : ByteArray), 0, 0, 0, 0, 0, 0, 0, 0, 0, 0, 0, 0, 0, 0, [w64 (1 + Int.tmod (w64 x0.2.1) 16)] ++ [w64 (1 + Int.tmod (w64 x0.2.2.2.1) 16)], Int.tmod (w64 x0.2.2.2.2.1) 4, w64 x0.2.2.2.2.2.1, 0, 0, 0, 0, 0))
          else
            some ((w64 (1 + Int.tmod (w64 x0.1) 7), (⟨#[]⟩ : ByteArray), 0, 0, 0, 0, 0, 0, 0, 0, 0, 0, 0, 0, 0, 0, [w64 (1 + Int.tmod (w64 x0.2.1) 16)], Int.tmod (w64 x0.2.2.2.2.1) 4, w64 x0.2.2.2.2.2.1, 0, 0, 0, 0, 0))
        else
          bif decide (w64 (1 + Int.tmod (w64 x0.1) 7) = 5) then
            bif decide (Int.tmod x0.2.2.1 2 = 1) then
              some ((w64 (1 + Int.tmod (w64 x0.1) 7), (⟨#[]⟩ : ByteArray), 0, 0, 0, 0, 0, 0, 0, 0, 0, 0, 0, 0, 0, 0, [w64 (1 + Int.tmod (w64 x0.2.1) 16)] ++ [w64 (1 + Int.tmod (w64 x0.2.2.2.1) 16)], Int.tmod (w64 x0.2.2.2.2.1) 4, w64 x0.2.2.2.2.2.1, 0, 0, 0, 0, 0))
            else
              some ((w64 (1 + Int.tmod (w64 x0.1) 7), (⟨#[]⟩ : ByteArray), 0, 0, 0, 0, 0, 0, 0, 0, 0, 0, 0, 0, 0, 0, [w64 (1 + Int.tmod (w64 x0.2.1) 16)], Int.tmod (w64 x0.2.2.2.2.1) 4, w64 x0.2.2.2.2.2.1, 0, 0, 0, 0, 0))
          else
            bif decide (w64 (1 + Int.tmod (w64 x0.1) 7) = 6) then
              some ((w64 (1 + Int.tmod (w64 x0.1) 7), (⟨#[]⟩ : ByteArray), 0, 0, 0, 0, 0, 0, 0, 0, 0, 0, 0, 0, 0, 0, [], 0, 0, w64 (1 + Int.tmod (w64 x0.2.1) 4), w64 (1 + Int.tmod (w64 x0.2.2.1) 4), w64 x0.2.2.2.1, Int.tmod (w64 x0.2.2.2.2.1) 3, w64 (4 * w64 x0.2.2.2.2.2.1)))
            else
              some ((w64 (1 + Int.tmod (w64 x0.1) 7), (⟨#[]⟩ : ByteArray), 0, 0, 0, 0, 0, 0, 0, 0, 0, 0, 0, 0, 0, Int.tmod (w64 x0.2.2.2.1) 10, [], 0, 0, w64 (1 + Int.tmod (w64 x0.2.1) 4), w64 (1 + Int.tmod (w64 x0.2.2.1) 4), 0, 0, 0))
noncomputable def feluccaref25_act_X : Cx Tryd.prog [.agg lGAct] := ⟨fun k => ⟨[feluccaref25_Directive_e k, feluccaref05_Print_e k], [], [hkArr Tryd.prog, hkStr Tryd.prog]⟩, Tryd.f57.ntmps, Tryd.f57.results, []⟩
theorem feluccaref25_act_eq (k : Nat) (x : T39) : feluccaref25_act k x = runF feluccaref25_act_X k feluccaref25_act_c [.agg lT39] x := by kernel_rfl
noncomputable def feluccaref25_act_e (k : Nat) : Ent Tryd.prog := ⟨57, [.agg lT39], [.agg lGAct], feluccaref25_act k, calls_of (X := feluccaref25_act_X) (k := k) (c := feluccaref25_act_c) Tryd.func57 (by kernel_rfl) (by kernel_rfl) (by kernel_rfl) (LoopEqs.all (show LoopEqs feluccaref25_act_X feluccaref25_act_c feluccaref25_act_X.L 0 from trivial)) (fun x => feluccaref25_act_eq k x), fun _ _ => by kernel_rfl⟩
/-! felucca/feluccaref25.Acts -/
noncomputable def feluccaref25_Acts_c : Code := Tryd.f23.body.getD .skip
def feluccaref25_Acts_L0 : Nat → ((List Int) × (List GAct)) → Option (((List Int) × (List GAct)) ⊕ ((List GAct) × Int))
  | 0, _ => none
  | k + 1, (b, out4) =>
  bif decide (10 ≤ Int.ofNat (List.length b)) then
    bif decide (0 < Int.ofNat (List.length b)) then
      bif decide (w64 (0 + 1) < Int.ofNat (List.length b)) then
        bif decide (w64 (w64 (0 + 1) + 1) < Int.ofNat (List.length b)) then
          bif decide (w64 (w64 (w64 (0 + 1) + 1) + 1) < Int.ofNat (List.length b)) then
            bif decide (w64 (w64 (w64 (w64 (0 + 1) + 1) + 1) + 1) < Int.ofNat (List.length b)) then
              bif decide (w64 (w64 (w64 (w64 (w64 (0 + 1) + 1) + 1) + 1) + 1) < Int.ofNat (List.length b)) then
                bif decide (w64 (w64 (w64 (w64 (w64 (w64 (0 + 1) + 1) + 1) + 1) + 1) + 1) < Int.ofNat (List.length b)) then
                  bif decide (w64 (w64 (w64 (w64 (w64 (w64 (w64 (0 + 1) + 1) + 1) + 1) + 1) + 1) + 1) < Int.ofNat (List.length b)) then
                    bif decide (w64 (w64 (w64 (w64 (w64 (w64 (w64 (w64 (0 + 1) + 1) + 1) + 1) + 1) + 1) + 1) + 1) < Int.ofNat (List.length b)) then
                      bif decide (w64 (w64 (w64 (w64 (w64 (w64 (w64 (w64 (w64 (0 + 1) + 1) + 1) + 1) + 1) + 1) + 1) + 1) + 1) < Int.ofNat (List.length b)) then
                        (feluccaref25_act k (List.getD b (Int.toNat 0) 0, List.getD b (Int.toNat (w64 (0 + 1))) 0, List.getD b (Int.toNat (w64 (w64 (0 + 1) + 1))) 0, List.getD b (Int.toNat (w64 (w64 (w64 (0 + 1) + 1) + 1))) 0, List.getD b (Int.toNat (w64 (w64 (w64 (w64 (0 + 1) + 1) + 1) + 1))) 0, List.getD b (Int.toNat (w64 (w64 (w64 (w64 (w64 (0 + 1) + 1) + 1) + 1) + 1))) 0, List.getD b (Int.toNat (w64 (w64 (w64 (w64 (w64 (w64 (0 + 1) + 1) + 1) + 1) + 1) + 1))) 0, List.getD b (Int.toNat (w64 (w64 (w64 (w64 (w64 (w64 (w64 (0 + 1) + 1) + 1) + 1) + 1) + 1) + 1))) 0, List.getD b (Int.toNat (w64 (w64 (w64 (w64 (w64 (w64 (w64 (w64 (0 + 1) + 1) + 1) + 1) + 1) + 1) + 1) + 1))) 0, List.getD b (Int.toNat (w64 (w64 (w64 (w64 (w64 (w64 (w64 (w64 (w64 (0 + 1) + 1) + 1) + 1) + 1) + 1) + 1) + 1) + 1))) 0)).bind fun o_12 =>
                          bif decide ((List.length out4 + List.length [o_12]) * 216 ≤ 140737488355328) then
                            bif decide (10 ≤ Int.ofNat (List.length b)) then
                              feluccaref25_Acts_L0 k (List.drop (Int.toNat 10) b, out4 ++ [o_12])
                            else
                              none
                          else
                            none
                      else
                        none
                    else
                      none
                  else
                    none
                else
                  none
              else
                none
            else
              none
          else
            none
        else
          none
      else
        none
    else
      none
  else
    some (Sum.inl (b, out4))
def feluccaref25_Acts (k : Nat) : (List Int) → Option ((List GAct) × Int) := fun (b) =>
  (feluccaref25_Acts_L0 k (b, [])).bind fun o_1 =>
    match o_1 with
    | .inl o_2 =>
      some ((o_2.2, Int.ofNat (List.length o_2.1)))
    | .inr o_2 =>
      some (o_2)
noncomputable def feluccaref25_Acts_X : Cx Tryd.prog [.one (.row 45 kGAct), .one (.sc (.int .i64))] := ⟨fun k => ⟨[feluccaref25_act_e k], [], [hkArr Tryd.prog, hkStr Tryd.prog]⟩, Tryd.f23.ntmps, Tryd.f23.results, [some ⟨0, [(0, .one (.ro [.int .u8])), (4, .one (.own 45 kGAct))], [(0, .one (.ro [.int .u8])), (4, .one (.own 45 kGAct))], feluccaref25_Acts_L0⟩, none]⟩
theorem feluccaref25_Acts_L0_eq (k : Nat) (x : (List Int) × (List GAct)) : feluccaref25_Acts_L0 (k + 1) x = roundF feluccaref25_Acts_X k ⟨0, [(0, .one (.ro [.int .u8])), (4, .one (.own 45 kGAct))], [(0, .one (.ro [.int .u8])), (4, .one (.own 45 kGAct))], feluccaref25_Acts_L0⟩ 0 (lp feluccaref25_Acts_c 0) x := by kernel_rfl
theorem feluccaref25_Acts_eq (k : Nat) (x : List Int) : feluccaref25_Acts k x = runF feluccaref25_Acts_X k feluccaref25_Acts_c [.one (.row 5 [.int .u8])] x := by kernel_rfl
noncomputable def feluccaref25_Acts_e (k : Nat) : Ent Tryd.prog := ⟨23, [.one (.row 5 [.int .u8])], [.one (.row 45 kGAct), .one (.sc (.int .i64))], feluccaref25_Acts k, calls_of (X := feluccaref25_Acts_X) (k := k) (c := feluccaref25_Acts_c) Tryd.func23 (by kernel_rfl) (by kernel_rfl) (by kernel_rfl) (LoopEqs.all (show LoopEqs feluccaref25_Acts_X feluccaref25_Acts_c feluccaref25_Acts_X.L 0 from ⟨⟨fun _ => rfl, fun k x => feluccaref25_Acts_L0_eq k x⟩, trivial⟩)) (fun x => feluccaref25_Acts_eq k x), fun _ _ => by kernel_rfl⟩
/-! slices.Repeat[[]felucca/api.Directive,felucca/api.Directive] (by hand) -/
noncomputable def slices_Repeat_e (k : Nat) : Ent Tryd.prog := ⟨95, [.one (.row 27 kGDirective), .one (.sc (.int .i64))], [.one (.row 27 kGDirective)], slices_Repeat k, slices_Repeat_ok k, fun _ _ => by kernel_rfl⟩
/-! felucca/script.load -/
noncomputable def script_load_c : Code := Tryd.f83.body.getD .skip
def script_load (k : Nat) : T39 → Option (ByteArray) := fun (x0) =>
  (script_Directive k x0).bind fun o_1 =>
    (slices_Repeat k ([o_1], w64 (1 + w64 (andI IntKind.u8 x0.2.2.2.2.2.2.2.2.1 1)))).bind fun o_2 =>
      (text_Print k o_2).bind fun o_3 =>
        bif o_3.2 then
          some (o_3.1)
        else
          some ((⟨#[120, 10]⟩ : ByteArray))
noncomputable def script_load_X : Cx Tryd.prog [.one (.sc (.str))] := ⟨fun k => ⟨[script_Directive_e k, text_Print_e k, slices_Repeat_e k], [], [hkArr Tryd.prog, hkStr Tryd.prog]⟩, Tryd.f83.ntmps, Tryd.f83.results, []⟩
theorem script_load_eq (k : Nat) (x : T39) : script_load k x = runF script_load_X k script_load_c [.agg lT39] x := by kernel_rfl
noncomputable def script_load_e (k : Nat) : Ent Tryd.prog := ⟨83, [.agg lT39], [.one (.sc (.str))], script_load k, calls_of (X := script_load_X) (k := k) (c := script_load_c) Tryd.func83 (by kernel_rfl) (by kernel_rfl) (by kernel_rfl) (LoopEqs.all (show LoopEqs script_load_X script_load_c script_load_X.L 0 from trivial)) (fun x => script_load_eq k x), fun _ _ => by kernel_rfl⟩
/-! felucca/script.act -/
noncomputable def script_act_c : Code := Tryd.f56.body.getD .skip
def script_act (k : Nat) : T39 → Option (GAct) := fun (x0) =>
  (script_of k (x0.1, 7)).bind fun o_1 =>
    bif decide (o_1 = 1) then
      (script_load k x0).bind fun o_3 =>
        some ((o_1, o_3, 0, 0, 0, 0, 0, 0, 0, 0, 0, 0, 0, 0, 0, 0, [], 0, 0, 0, 0, 0, 0, 0))
    else
      bif decide (o_1 = 2) then
        (script_Directive k x0).bind fun o_4 =>
          some ((o_1, (⟨#[]⟩ : ByteArray), o_4.1, o_4.2.1, o_4.2.2.1, o_4.2.2.2.1, o_4.2.2.2.2.1, o_4.2.2.2.2.2.1, o_4.2.2.2.2.2.2.1, o_4.2.2.2.2.2.2.2.1, o_4.2.2.2.2.2.2.2.2.1, o_4.2.2.2.2.2.2.2.2.2.1, o_4.2.2.2.2.2.2.2.2.2.2.1, o_4.2.2.2.2.2.2.2.2.2.2.2.1, o_4.2.2.2.2.2.2.2.2.2.2.2.2, 0, [], 0, 0, 0, 0, 0, 0, 0))
      else
        bif decide (o_1 = 3) then
          some ((o_1, (⟨#[]⟩ : ByteArray), 0, 0, 0, 0, 0, 0, 0, 0, 0, 0, 0, 0, 0, w64 x0.2.1, [], 0, 0, 0, 0, 0, 0, 0))
        else
          bif decide (o_1 = 4) then
            (script_of k (x0.2.1, 16)).bind fun o_6 =>
              bif decide (andI IntKind.u8 x0.2.2.1 1 = 1) then
                (script_of k (x0.2.2.2.1, 16)).bind fun o_8 =>
                  some ((o_1, (⟨#[]⟩ : ByteArray), 0, 0, 0, 0, 0, 0, 0, 0, 0, 0, 0, 0, 0, 0, [o_6] ++ [o_8], w64 (Int.tmod x0.2.2.2.2.1 4), w64 x0.2.2.2.2.2.1, 0, 0, 0, 0, 0))
              else
                some ((o_1, (⟨#[]⟩ : ByteArray), 0, 0, 0, 0, 0, 0, 0, 0, 0, 0, 0, 0, 0, 0, [o_6], w64 (Int.tmod x0.2.2.2.2.1 4), w64 x0.2.2.2.2.2.1, 0, 0, 0, 0, 0))
          else
            bif decide (o_1 = 5) then
              (script_of k (x0.2.1, 16)).bind fun o_7 =>
                bif decide (andI IntKind.u8 x0.2.2.1 1 = 1) then
                  (script_of k (x0.2.2.2.1, 16)).bind fun o_9 =>
                    some ((o_1, (⟨#[]⟩ : ByteArray), 0, 0, 0, 0, 0, 0, 0, 0, 0, 0, 0, 0, 0, 0, [o_7] ++ [o_9], w64 (Int.tmod x0.2.2.2.2.1 4), w64 x0.2.2.2.2.2.1, 0, 0, 0, 0, 0))
                else
                  some ((o_1, (⟨#[]⟩ : ByteArray), 0, 0, 0, 0, 0, 0, 0, 0, 0, 0, 0, 0, 0, 0, [o_7], w64 (Int.tmod x0.2.2.2.2.1 4), w64 x0.2.2.2.2.2.1, 0, 0, 0, 0, 0))
            else
              bif decide (o_1 = 6) then
                (script_of k (x0.2.1, 4)).bind fun o_8 =>
                  (script_of k (x0.2.2.1, 4)).bind fun o_9 =>
                    some ((o_1, (⟨#[]⟩ : ByteArray), 0, 0, 0, 0, 0, 0, 0, 0, 0, 0, 0, 0, 0, 0, [], 0, 0, o_8, o_9, w64 x0.2.2.2.1, w64 (Int.tmod x0.2.2.2.2.1 3), w64 (w64 x0.2.2.2.2.2.1 * 4)))
              else
                bif decide (o_1 = 7) then
                  (script_of k (x0.2.1, 4)).bind fun o_9 =>
                    (script_of k (x0.2.2.1, 4)).bind fun o_10 =>
                      some ((o_1, (⟨#[]⟩ : ByteArray), 0, 0, 0, 0, 0, 0, 0, 0, 0, 0, 0, 0, 0, w64 (Int.tmod x0.2.2.2.1 10), [], 0, 0, o_9, o_10, 0, 0, 0))
                else
                  some ((o_1, (⟨#[]⟩ : ByteArray), 0, 0, 0, 0, 0, 0, 0, 0, 0, 0, 0, 0, 0, 0, [], 0, 0, 0, 0, 0, 0, 0))
noncomputable def script_act_X : Cx Tryd.prog [.agg lGAct] := ⟨fun k => ⟨[script_Directive_e k, script_of_e k, script_load_e k], [], [hkArr Tryd.prog, hkStr Tryd.prog]⟩, Tryd.f56.ntmps, Tryd.f56.results, []⟩
theorem script_act_eq (k : Nat) (x : T39) : script_act k x = runF script_act_X k script_act_c [.agg lT39] x := by kernel_rfl
noncomputable def script_act_e (k : Nat) : Ent Tryd.prog := ⟨56, [.agg lT39], [.agg lGAct], script_act k, calls_of (X := script_act_X) (k := k) (c := script_act_c) Tryd.func56 (by kernel_rfl) (by kernel_rfl) (by kernel_rfl) (LoopEqs.all (show LoopEqs script_act_X script_act_c script_act_X.L 0 from trivial)) (fun x => script_act_eq k x), fun _ _ => by kernel_rfl⟩
/-! felucca/script.Acts -/
noncomputable def script_Acts_c : Code := Tryd.f22.body.getD .skip
def script_Acts_L0 : Nat → ((List Int) × (List GAct)) → Option (((List Int) × (List GAct)) ⊕ ((List GAct) × Int))
  | 0, _ => none
  | k + 1, (b, l) =>
  bif decide (10 ≤ Int.ofNat (List.length b)) then
    bif decide (10 ≤ Int.ofNat (List.length b)) then
      bif decide (10 ≤ Int.ofNat (List.length (List.take (Int.toNat 10) b))) then
        (script_act k (List.getD (List.take (Int.toNat 10) b) 0 0, List.getD (List.take (Int.toNat 10) b) 1 0, List.getD (List.take (Int.toNat 10) b) 2 0, List.getD (List.take (Int.toNat 10) b) 3 0, List.getD (List.take (Int.toNat 10) b) 4 0, List.getD (List.take (Int.toNat 10) b) 5 0, List.getD (List.take (Int.toNat 10) b) 6 0, List.getD (List.take (Int.toNat 10) b) 7 0, List.getD (List.take (Int.toNat 10) b) 8 0, List.getD (List.take (Int.toNat 10) b) 9 0)).bind fun o_4 =>
          bif decide ((List.length l + List.length [o_4]) * 216 ≤ 140737488355328) then
            bif decide (10 ≤ Int.ofNat (List.length b)) then
              script_Acts_L0 k (List.drop (Int.toNat 10) b, l ++ [o_4])
            else
              none
          else
            none
      else
        none
    else
      none
  else
    some (Sum.inl (b, l))
def script_Acts (k : Nat) : (List Int) → Option ((List GAct) × Int) := fun (b) =>
  (script_Acts_L0 k (b, [])).bind fun o_1 =>
    match o_1 with
    | .inl o_2 =>
      some ((o_2.2, Int.ofNat (List.length o_2.1)))
    | .inr o_2 =>
      some (o_2)
noncomputable def script_Acts_X : Cx Tryd.prog [.one (.row 45 kGAct), .one (.sc (.int .i64))] := ⟨fun k => ⟨[script_act_e k], [], [hkArr Tryd.prog, hkStr Tryd.prog]⟩, Tryd.f22.ntmps, Tryd.f22.results, [some ⟨0, [(0, .one (.ro [.int .u8])), (2, .one (.own 45 kGAct))], [(0, .one (.ro [.int .u8])), (2, .one (.own 45 kGAct))], script_Acts_L0⟩]⟩
theorem script_Acts_L0_eq (k : Nat) (x : (List Int) × (List GAct)) : script_Acts_L0 (k + 1) x = roundF script_Acts_X k ⟨0, [(0, .one (.ro [.int .u8])), (2, .one (.own 45 kGAct))], [(0, .one (.ro [.int .u8])), (2, .one (.own 45 kGAct))], script_Acts_L0⟩ 0 (lp script_Acts_c 0) x := by kernel_rfl
theorem script_Acts_eq (k : Nat) (x : List Int) : script_Acts k x = runF script_Acts_X k script_Acts_c [.one (.row 5 [.int .u8])] x := by kernel_rfl
noncomputable def script_Acts_e (k : Nat) : Ent Tryd.prog := ⟨22, [.one (.row 5 [.int .u8])], [.one (.row 45 kGAct), .one (.sc (.int .i64))], script_Acts k, calls_of (X := script_Acts_X) (k := k) (c := script_Acts_c) Tryd.func22 (by kernel_rfl) (by kernel_rfl) (by kernel_rfl) (LoopEqs.all (show LoopEqs script_Acts_X script_Acts_c script_Acts_X.L 0 from ⟨⟨fun _ => rfl, fun k x => script_Acts_L0_eq k x⟩, trivial⟩)) (fun x => script_Acts_eq k x), fun _ _ => by kernel_rfl⟩
end Go.Proofs.YtaknikdbnfmlfaaDoor.Ex
